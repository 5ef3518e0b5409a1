/-
  Chapter 56: of the reference: Union (layer 02), in, complete, next.
-/
import Derived.Test.YtgaolgfjbgflgaaLc
import Derived.Test.YtgaolgfjbgflgaaAp2
import Derived.Test.YtgaolgfjbgflgaaRg
import Derived.Test.YtgaolgfjbgflgaaHg
namespace Go.Proofs.Ytgaolgfjbgflgaa
open Go.RowKit

set_option maxRecDepth 100000 in
set_option maxHeartbeats 8000000 in
theorem runion_any (v u : Value) (xs ys : List Str) (W : World) (hr : Reads vs W v xs) (hq : Reads vs W u ys) (hn : xs.length + ys.length ≤ 1000000) : Calls Try.prog 61 #[v, u] W (fun e w' => ∃ z, e = .returned z ∧ Reads vs w' z (ofL (xs ++ ys)) ∧ Below W.heap.size W w') := by
  have HR := Lib.hid hr
  have HQ := Lib.hid hq
  obtain ⟨xa, xn, xk, rfl⟩ := Slc.of_reads hr
  obtain ⟨ya, yn, yk, rfl⟩ := Slc.of_reads hq
  clear hr hq
  go_enter Try.func61, Try.ntmps61
  have HBX : Hid (Below W.heap.size W (W.alloc (.cells #[] 9))) := Lib.hid ((Below.refl _ _).alloc (Nat.le_refl _) _)
  go_wp2_with (at_builtin; refine append_reads2 rfl (.tmp 5) (.tmp 6) rfl W.heap.size _ (.slice xa xn xk) 0 [] xs rfl (World.ownsRow_made W #[] 0 (Nat.le_refl _) (Nat.zero_le _) rfl) rfl (HR.out.keep HBX.out) (by omega) HBX.out.size ?_)
  intro v3 w3 hown3 hgr3
  have K3 := Lib.hid (below_row_grown HBX.out (Below.refl _ _) (World.ownsRow_made (e := 9) (size := 1) W #[] 0 (Nat.le_refl _) (Nat.zero_le _) rfl) hgr3)
  have H3 : Hid (w3.ownsRow W.heap.size 9 1 v3 xs.length (xs.map vs)) := Lib.hid (by simpa using hown3)
  clear hown3 hgr3
  go_wp2_with (at_builtin; refine append_reads2 rfl (.tmp 7) (.tmp 8) rfl W.heap.size _ (.slice ya yn yk) xs.length xs ys rfl H3.out rfl (HQ.out.keep K3.out) (by omega) K3.out.size ?_)
  intro v4 w4 hown4 hgr4
  have K4 := Lib.hid (below_row_grown K3.out (Below.refl _ _) H3.out hgr4)
  have H4 : Hid (w4.ownsRow W.heap.size 9 1 v4 (xs ++ ys).length ((xs ++ ys).map vs)) := Lib.hid (by rw [List.length_append, List.map_append]; exact hown4)
  clear hown4 hgr4
  have HOF := Lib.hid (rof_any v4 (xs ++ ys) w4 (Reads.of_owns H4.out) (by rw [List.length_append]; omega))
  go_wp2_with fail
  refine HOF.out.mono ?_
  rintro e w5 ⟨z, rfl, hz, hb⟩
  have HZ := Lib.hid (Reads.of_owns hz)
  have K5 := Lib.hid (K4.out.trans (hb.mono K4.out.size))
  clear hz hb
  go_wp2
  go_ret
  exact ⟨_, rfl, HZ.out, K5.out⟩

set_option maxHeartbeats 2000000 in
theorem rin_any (v : Value) (xs : List Int) (x : Int) (W : World) (hr : Reads vi W v xs) : Calls Try.prog 60 #[v, .int .i64 x] W (BoolMade W (decide (x ∈ xs))) := by
  obtain ⟨ao, cap, rfl, hl, hm, hn, hx⟩ := hr
  have HX := Lib.hid hx
  unfold maxLen at hm
  clear hx hn
  go_enter Try.func60, Try.ntmps60
  go_wp2
  go_loopg [5] xs.length (fun m i wr => ∃ k : Nat, m + k = xs.length ∧ i = .int .i64 k ∧ x ∉ xs.take k ∧ Below W.heap.size W wr)
  case atStart => exact ⟨0, by omega, rfl, by simp, Below.refl _ _⟩
  case round =>
    obtain ⟨k, hmk, rfl, hnot, hbel⟩ := hrel
    have HM := Lib.hid hmk
    have HN := Lib.hid hnot
    have KW := Lib.hid hbel
    have hk : k ≤ xs.length := by omega
    clear hmk hnot hbel
    by_cases hlt : k < xs.length
    · obtain ⟨b, off, rfl, hb, hc⟩ := HX.out (by intro e; subst e; simp at hlt)
      have h1 : wr.cell? ⟨b, off + k, none⟩ = some (.int .i64 xs[k]) := (KW.out.cell (p := ⟨b, off + k, none⟩) hb).trans (hc k hlt)
      have hki : (k : Int) < xs.length := by omega
      have HI := Lib.hid (List.getElem_mem hlt)
      have HS := Lib.hid (List.take_succ_eq_append_getElem hlt)
      clear hc
      generalize xs[k] = y at *
      clear hlt
      by_cases he : y = x
      · have e1 := beq_t he
        have HF : Hid (decide (x ∈ xs) = true) := Lib.hid (decide_eq_true (he ▸ HI.out))
        clear he
        go_wp2
        go_ret
        exact ⟨ret_bool HF.out.symm, KW.out⟩
      · have e1 := beq_f he
        have HF : Hid (x ∉ xs.take (k + 1)) := Lib.hid (by
          rw [HS.out, List.mem_append, List.mem_singleton]
          rintro (h2 | h2)
          · exact HN.out h2
          · exact he h2.symm)
        clear he
        go_wp2
        go_roundg (xs.length - (k + 1))
        case measure => have := HM.out; omega
        case rel => exact ⟨k + 1, by omega, by go_num, HF.out, KW.out⟩
    · have HF : Hid (decide (x ∈ xs) = false) := Lib.hid (decide_eq_false (by have h0 := HN.out; rwa [List.take_of_length_le (by omega)] at h0))
      go_wp2
      go_ret
      exact ⟨ret_bool HF.out.symm, KW.out⟩
theorem mem_ints {l : List Nat} {i : Nat} : ((i : Nat) : Int) ∈ intsN l ↔ i ∈ l := by
  unfold intsN
  rw [List.mem_map]
  exact ⟨fun ⟨a, ha, e⟩ => by have : a = i := by omega
                              exact this ▸ ha, fun h => ⟨i, h, rfl⟩⟩
theorem rinN_any (v : Value) (l : List Nat) (i : Nat) (W : World) (hr : Reads vi W v (intsN l)) : Calls Try.prog 60 #[v, .int .i64 ((i : Nat) : Int)] W (BoolMade W (decide (i ∈ l))) := by
  have h0 := rin_any v (intsN l) ((i : Nat) : Int) W hr
  rwa [show decide (((i : Nat) : Int) ∈ intsN l) = decide (i ∈ l) by rw [decide_eq_decide]; exact mem_ints] at h0
theorem slc_ints {w : World} {v : Value} {l : List Nat} (hr : Reads vi w v (intsN l)) : ∃ a k, v = .slice a l.length k ∧ k ≤ 2 ^ 63 - 1 ∧ l.length ≤ k := by
  obtain ⟨ao, cap, rfl, hl, hm, -, -⟩ := hr
  unfold maxLen at hm
  have e : (intsN l).length = l.length := by simp [intsN]
  rw [e] at hl ⊢
  exact ⟨_, _, rfl, hm, hl⟩
def compP (h : List Opn) (l : List Nat) (k : Nat) : Prop := ∀ x, x < k → ¬ endO (nth h x) = -1 → x ∈ l

set_option maxHeartbeats 4000000 in
theorem rcomplete56 (v u : Value) (h : List Opn) (l : List Nat) (W : World) (hr : ReadsO W v h) (hq : Reads vi W u (intsN l)) : Calls Try.prog 38 #[v, u] W (BoolMade W (compB h l)) := by
  have HR := Lib.hid hr
  have HQ := Lib.hid hq
  obtain ⟨ao, cap, rfl, hl, hm, -, -⟩ := hr
  unfold maxLen at hm
  have HCI := Lib.hid (@comp_iff h l)
  generalize compB h l = res at *
  clear hq
  go_enter Try.func38, Try.ntmps38
  go_wp2
  go_loopg [5] h.length (fun m i wr => ∃ k : Nat, m + k = h.length ∧ i = .int .i64 k ∧ compP h l k ∧ Below W.heap.size W wr)
  case atStart => exact ⟨0, by omega, rfl, fun x hx => by omega, Below.refl _ _⟩
  case round =>
    obtain ⟨k, hmk, rfl, hall, hbel⟩ := hrel
    have HM := Lib.hid hmk
    have HP := Lib.hid hall
    have KW := Lib.hid hbel
    have hk : k ≤ h.length := by omega
    clear hmk hall hbel
    by_cases hlt : k < h.length
    · obtain ⟨b, off, cap1, a4, c4, a5, c5, hv, _, _, hm4, hm5, hl4, hl5, hcell, r1, r2⟩ := HR.out.at2 hlt
      injection hv with e1 e2 e3
      subst e1
      have hki : (k : Int) < h.length := by omega
      have hk0 : (0 : Int) ≤ (k : Int) := by omega
      have dd := Lib.hid (hcell wr KW.out)
      have x3 := dd.out.2.2.2.1
      have HNX : Hid (nth h k = h[k]) := Lib.hid (nth_eq hlt)
      have HLT := Lib.hid (And.intro hlt trivial)
      clear e2 e3 hcell r1 r2 dd
      generalize h[k] = x at *
      clear hlt
      have HIN := Lib.hid (rinN_any u l k wr (HQ.out.keep KW.out))
      by_cases he : endO x = -1
      · have e1 := bne_f he
        have HN : Hid (compP h l (k + 1)) := Lib.hid fun y hy hn => by
          by_cases h1 : y = k
          · subst h1; rw [HNX.out] at hn; exact absurd he hn
          · exact HP.out y (by omega) hn
        clear he
        go_wp2
        go_roundg (h.length - (k + 1))
        case measure => have := HM.out; omega
        case rel => exact ⟨k + 1, by omega, by go_num, HN.out, KW.out⟩
      · have e1 := bne_t he
        by_cases hin : k ∈ l
        · have HN : Hid (compP h l (k + 1)) := Lib.hid fun y hy hn => by
            by_cases h1 : y = k
            · rw [h1]; exact hin
            · exact HP.out y (by omega) hn
          rw [decide_eq_true hin] at HIN
          clear he hin
          go_wp2_with fail
          refine HIN.out.mono ?_
          rintro e w2 ⟨rfl, hb2⟩
          have KW2 := Lib.hid (KW.out.trans (hb2.mono KW.out.size))
          clear hb2 HIN x3
          go_wp2
          go_roundg (h.length - (k + 1))
          case measure => have := HM.out; omega
          case rel => exact ⟨k + 1, by omega, by go_num, HN.out, KW2.out⟩
        · have HF : Hid (res = false) := Lib.hid (Bool.eq_false_iff.2 fun e => hin (HCI.out.1 e k HLT.out.1 (by rw [HNX.out]; exact he)))
          rw [decide_eq_false hin] at HIN
          clear he hin
          go_wp2_with fail
          refine HIN.out.mono ?_
          rintro e w2 ⟨rfl, hb2⟩
          have KW2 := Lib.hid (KW.out.trans (hb2.mono KW.out.size))
          clear hb2 HIN x3
          go_wp2
          go_ret
          exact ⟨ret_bool HF.out.symm, KW2.out⟩
    · have HF : Hid (res = true) := Lib.hid (HCI.out.2 fun x hx hn => HP.out x (by omega) hn)
      go_wp2
      go_ret
      exact ⟨ret_bool HF.out.symm, KW.out⟩
end Go.Proofs.Ytgaolgfjbgflgaa
