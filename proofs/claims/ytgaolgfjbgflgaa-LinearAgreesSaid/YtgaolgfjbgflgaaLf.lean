/-
  Chapter 56: what the updates of a set added; whether an operation may be next.
-/
import Derived.Test.YtgaolgfjbgflgaaLe
import Derived.Test.YtgaolgfjbgflgaaEq
import Derived.Test.YtgaolgfjbgflgaaAp2
namespace Go.Proofs.Ytgaolgfjbgflgaa
open Go.RowKit

def seesK (h : List Opn) (m k : Nat) : List Str := ((List.range k).filter fun i => m.testBit i).flatMap fun i => addO (nth h i)
theorem seesK_yes {h : List Opn} {m k : Nat} (hb : m.testBit k = true) : seesK h m (k + 1) = seesK h m k ++ addO (nth h k) := by unfold seesK; rw [List.range_succ, List.filter_append, List.flatMap_append]; simp [hb]
theorem seesK_no {h : List Opn} {m k : Nat} (hb : m.testBit k = false) : seesK h m (k + 1) = seesK h m k := by unfold seesK; rw [List.range_succ, List.filter_append, List.flatMap_append]; simp [hb]
theorem seesK_len {h : List Opn} (hs : SmallH h) (m : Nat) : ∀ k, k ≤ h.length → (seesK h m k).length ≤ 1000 * k
  | 0, _ => by simp [seesK]
  | k + 1, hk => by
    have ih := seesK_len hs m k (by omega)
    have h1 := (hs.2 _ (nth_mem (show k < h.length by omega))).1
    cases hb : m.testBit k with
    | true => rw [seesK_yes hb, List.length_append]; omega
    | false => rw [seesK_no hb]; omega
theorem bit_and {m k : Nat} (hm : m < 65536) : bits .and .u32 ((m : Int) / 2 ^ k) 1 = if m.testBit k = true then 1 else 0 := by
  have e1 : (m : Int) / 2 ^ k = ((m / 2 ^ k : Nat) : Int) := by simp
  have h1 : m / 2 ^ k < 65536 := Nat.lt_of_le_of_lt (Nat.div_le_self _ _) hm
  have h2 := u32_and_nat (m / 2 ^ k) 1 (by omega) (by omega)
  rw [e1]
  have e2 : ((1 : Nat) : Int) = 1 := rfl
  rw [e2] at h2
  rw [h2, Nat.and_one_is_mod]
  have h3 : m.testBit k = decide (m / 2 ^ k % 2 = 1) := by rw [Nat.testBit_eq_decide_div_mod_eq]
  rw [h3]
  by_cases h4 : m / 2 ^ k % 2 = 1
  · rw [if_pos (decide_eq_true h4), h4]; rfl
  · rw [if_neg (by simpa using h4)]
    have : m / 2 ^ k % 2 = 0 := by omega
    rw [this]; rfl

set_option maxRecDepth 100000 in
set_option maxHeartbeats 8000000 in
theorem sees_any (v hv : Value) (x : Opn) (h : List Opn) (m : Nat) (gs must : Nat) (aft : Nat → Nat) (gm : Nat) (steps : Int) (W : World) (hx : OpAt W v x) (hr : ReadsO W hv h) (hs : SmallH h) (hn : h.length ≤ 16) (hm : m < 65536)
    (hg : Blk W gs 58 (srchA hv must aft gm steps)) : Calls Try.prog 58 #[.pointer (some ⟨gs, 0, none⟩), v, .int .u32 (m : Int)] W (BoolMade W (seesB h m x)) := by
  have HR := Lib.hid hr
  have HS := Lib.hid hs
  have HG := Lib.hid hg
  obtain ⟨va, vz, rfl, ra, rz⟩ := hx
  obtain ⟨a4, n4, c4, rfl⟩ := Slc.of_reads ra
  obtain ⟨a5, n5, c5, rfl⟩ := Slc.of_reads rz
  have HZ := Lib.hid rz
  have hgl := hg.lt
  obtain ⟨ao, cap, rfl, hl, hcm, -, -⟩ := hr
  unfold maxLen at hcm
  unfold opV
  have HB0 : Hid (∀ (wq : World) cs, cs = srchA (.slice ao h.length cap) must aft gm steps → Blk wq gs 58 cs → wq.cell? ⟨gs, 0, none⟩ = some (.slice ao h.length cap)) := Lib.hid fun wq cs hcs hB => by subst hcs; exact hB.cell 0
  clear ra rz hg hs
  go_enter Try.func58, Try.ntmps58
  have HBX := Lib.hid (Blk.new W 37 #[.int .i64 (cliO x), .int .i64 (kindO x), .int .i64 (begO x), .int .i64 (endO x), .slice a4 n4 c4, .slice a5 n5 c5])
  have HKX : Hid (Below W.heap.size W (W.alloc (.cells #[.int .i64 (cliO x), .int .i64 (kindO x), .int .i64 (begO x), .int .i64 (endO x), .slice a4 n4 c4, .slice a5 n5 c5] 37))) := Lib.hid ((Below.refl _ _).alloc (Nat.le_refl _) _)
  have cg := HB0.out _ _ rfl (HG.out.alloc (.cells #[.int .i64 (cliO x), .int .i64 (kindO x), .int .i64 (begO x), .int .i64 (endO x), .slice a4 n4 c4, .slice a5 n5 c5] 37))
  go_wp2
  generalize hW1 : W.alloc _ = W1 at *
  have HW1 : Hid (W1.heap.size = W.heap.size + 1) := Lib.hid (by rw [← hW1]; simp)
  clear hW1 cg
  have HRR := Lib.hid (fun wq (hb : Below (W.heap.size + 1) W1 wq) => HKX.out.trans (hb.mono (Nat.le_succ _)))
  go_loopg [7, 15] h.length (fun mm al i wr => ∃ k : Nat, mm + k = h.length ∧ i = .int .i64 k ∧ wr.ownsRow (W.heap.size + 1) 9 1 al (seesK h m k).length ((seesK h m k).map vs) ∧ Below (W.heap.size + 1) W1 wr)
  case atStart => exact ⟨0, by omega, rfl, World.ownsRow_nil _ _ _ _, Below.refl _ _⟩
  case round =>
    obtain ⟨k, hmk, rfl, hown, hbel⟩ := hrel
    have HM := Lib.hid hmk
    have HO := Lib.hid hown
    have KB := Lib.hid hbel
    have KW := Lib.hid (HRR.out wr hbel)
    have hk : k ≤ h.length := by omega
    have hsl := seesK_len HS.out m k hk
    have hsz := hbel.size
    rw [HW1.out] at hsz
    clear hmk hown hbel
    by_cases hlt : k < h.length
    · obtain ⟨b, off, cap1, d4, k4, d5, k5, hv, _, _, hm4, hm5, hl4, hl5, hcell, r1, r2⟩ := HR.out.at2 hlt
      injection hv with e1 e2 e3
      subst e1
      have hki : (k : Int) < h.length := by omega
      have hk0 : (0 : Int) ≤ (k : Int) := by omega
      have hki32 : (k : Int) < 32 := by omega
      have hla := (HS.out.2 _ (List.getElem_mem hlt)).1
      have dd := Lib.hid (hcell wr KW.out)
      have x0 := dd.out.1
      have x1 := dd.out.2.1
      have x2 := dd.out.2.2.1
      have x3 := dd.out.2.2.2.1
      have x4 := dd.out.2.2.2.2.1
      have x5 := dd.out.2.2.2.2.2
      have HN := Lib.hid r1
      have HNX : Hid (nth h k = h[k]) := Lib.hid (nth_eq hlt)
      clear e2 e3 hcell r1 r2 dd
      generalize h[k] = y at *
      clear hlt
      have hba := bit_and (m := m) (k := k) hm
      have HBY : Hid (Below wr.heap.size wr (wr.alloc (.cells #[.int .i64 (cliO y), .int .i64 (kindO y), .int .i64 (begO y), .int .i64 (endO y), .slice d4 (addO y).length k4, .slice d5 (seeO y).length k5] 37))) := Lib.hid ((Below.refl _ _).alloc (Nat.le_refl _) _)
      have HKY : Hid (Below (W.heap.size + 1) W1 (wr.alloc (.cells #[.int .i64 (cliO y), .int .i64 (kindO y), .int .i64 (begO y), .int .i64 (endO y), .slice d4 (addO y).length k4, .slice d5 (seeO y).length k5] 37))) := Lib.hid (KB.out.trans (HBY.out.mono hsz))
      by_cases hb : m.testBit k = true
      · rw [if_pos hb] at hba
        have hs1 := seesK_yes (h := h) hb
        rw [HNX.out] at hs1
        have HS1 := Lib.hid hs1
        clear hs1 hb
        generalize hSK : seesK h m k = S at *
        have HSK := Lib.hid hSK
        clear hSK
        go_wp2_with (at_builtin; refine append_reads2 rfl (.tmp 25) (.tmp 27) rfl (W.heap.size + 1) _ (.slice d4 (addO y).length k4) S.length S (addO y) rfl (below_row HO.out HBY.out) rfl ((HN.out.keep KW.out).keep HBY.out) (by omega) (Nat.le_trans hsz HBY.out.size) ?_)
        intro v3 w3 hown3 hgr3
        have HX3 : Hid (w3.ownsRow (W.heap.size + 1) 9 1 v3 (seesK h m (k + 1)).length ((seesK h m (k + 1)).map vs)) := Lib.hid (by rw [HS1.out, List.length_append, List.map_append]; exact hown3)
        have HK3 : Hid (Below (W.heap.size + 1) W1 w3) := Lib.hid (HKY.out.grown hgr3 (Nat.le_trans hsz HBY.out.size) (fun j hj => (HO.out.lt j hj).1))
        clear hown3 hgr3
        go_wp2
        go_roundg (h.length - (k + 1))
        case measure => have := HM.out; omega
        case rel => exact ⟨k + 1, by omega, by go_num, HX3.out, HK3.out⟩
      · rw [if_neg hb] at hba
        have HS1 := Lib.hid (seesK_no (h := h) (Bool.eq_false_iff.2 hb))
        clear hb
        go_wp2
        go_roundg (h.length - (k + 1))
        case measure => have := HM.out; omega
        case rel => exact ⟨k + 1, by omega, by go_num, by rw [HS1.out]; exact below_row HO.out HBY.out, HKY.out⟩
    · obtain rfl : k = h.length := by omega
      have HSO := Lib.hid (sort_own u7 (W.heap.size + 1) (seesK h m h.length).length (seesK h m h.length) wr HO.out (by omega))
      have HXW := Lib.hid (HBX.out.below KB.out (Nat.lt_succ_self _))
      go_wp2_with fail
      refine HSO.out.mono ?_
      rintro e w4 ⟨rfl, hown4, hgr4⟩
      have HXW4 : Hid (Blk w4 W.heap.size 37 #[.int .i64 (cliO x), .int .i64 (kindO x), .int .i64 (begO x), .int .i64 (endO x), .slice a4 n4 c4, .slice a5 n5 c5]) := Lib.hid ((hgr4.block _ HXW.out.lt (fun e => by have := (HO.out.lt _ e.symm).1; omega)).trans HXW.out)
      have KW4 : Hid (Below (W.heap.size + 1) W1 w4) := Lib.hid (KB.out.grown hgr4 hsz (fun j hj => (HO.out.lt j hj).1))
      obtain ⟨c0, c1, c2, c3, c4', c5', hltx⟩ := blk6 HXW4.out
      have HEQ := Lib.hid (equal_any u7 (.slice a5 n5 c5) _ (seeO x) w4 (Reads.of_owns hown4) (HZ.out.keep (HRR.out w4 KW4.out)))
      have HFI : Hid (decide ((seesK h m h.length).mergeSort (fun x y => decide (x ≤ y)) = seeO x) = seesB h m x) := Lib.hid rfl
      clear hown4 hgr4 HSO HXW HO
      go_wp2_with fail
      refine HEQ.out.mono ?_
      rintro e w5 ⟨rfl, hd⟩
      have KW5 := Lib.hid (HRR.out _ (KW4.out.trans (hd.below (B := W.heap.size + 1))))
      clear hd HEQ c0 c1 c2 c3 c4' c5'
      go_wp2
      go_ret
      exact ⟨ret_bool HFI.out, KW5.out⟩
end Go.Proofs.Ytgaolgfjbgflgaa
