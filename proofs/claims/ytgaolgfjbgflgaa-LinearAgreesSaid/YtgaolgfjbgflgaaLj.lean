/-
  Chapter 56: linear.check, linear.Check.
-/
import Derived.Test.YtgaolgfjbgflgaaLi
import Derived.Test.YtgaolgfjbgflgaaAp2
import Derived.Test.YtgaolgfjbgflgaaJb
import Derived.ChangeKeysEq
namespace Go.Proofs.Ytgaolgfjbgflgaa
open Go.RowKit

theorem nextI_go {h : List Opn} {m : Nat} (hg : G h m = true) (hd : doneB h m = false) : nextI h m < h.length ∧ goB h m (nextI h m) = true := by
  rcases G_iff.1 hg with h1 | ⟨i, hi, h1, h2⟩
  · rw [hd] at h1; cases h1
  · unfold nextI
    cases hf : (List.range h.length).find? fun i => goB h m i with
    | none =>
      have := List.find?_eq_none.1 hf i (List.mem_range.2 hi)
      unfold goB at this
      rw [h1, h2] at this
      exact absurd rfl this
    | some k => exact ⟨List.mem_range.1 (List.mem_of_find?_eq_some hf), List.find?_some hf⟩
theorem go_may {h : List Opn} {m i : Nat} (hg : goB h m i = true) : mayB h m i = true ∧ G h (addM m i) = true := by
  unfold goB at hg; rw [Bool.and_eq_true] at hg; exact hg
theorem path_more {h : List Opn} : ∀ (f m : Nat), G h m = true → freeK m h.length < f → path h (f + 1) m = path h f m
  | 0, m, _, hf => by omega
  | f + 1, m, hg, hf => by
    have e1 : ∀ g, path h (g + 1) m = if doneB h m = true then [] else nextI h m :: path h g (addM m (nextI h m)) := fun _ => rfl
    rw [e1 (f + 1), e1 f]
    by_cases hd : doneB h m = true
    · rw [if_pos hd, if_pos hd]
    · rw [if_neg hd, if_neg hd]
      obtain ⟨h1, h2⟩ := nextI_go hg (Bool.eq_false_iff.2 hd)
      have h3 := freeK_add (may_bit (go_may h2).1) h1
      rw [path_more f _ (go_may h2).2 (by omega)]
theorem path_of {h : List Opn} {m : Nat} (hg : G h m = true) : ∀ f, freeK m h.length < f → path h f m = path h (freeK m h.length + 1) m
  | 0, hf => by omega
  | f + 1, hf => by
    by_cases he : f = freeK m h.length
    · rw [he]
    · rw [path_more f m hg (by omega), path_of hg f (by omega)]
def pathG (h : List Opn) (m : Nat) : List Nat := path h (freeK m h.length + 1) m
theorem pathG_done {h : List Opn} {m : Nat} (hd : doneB h m = true) : pathG h m = [] := by unfold pathG; rw [path, if_pos hd]
theorem pathG_step {h : List Opn} {m : Nat} (hg : G h m = true) (hd : doneB h m = false) : pathG h m = nextI h m :: pathG h (addM m (nextI h m)) := by
  obtain ⟨h1, h2⟩ := nextI_go hg hd
  have h3 := freeK_add (may_bit (go_may h2).1) h1
  unfold pathG
  rw [path, if_neg (by rw [hd]; exact Bool.false_ne_true), path_of (go_may h2).2 _ (by omega)]
theorem pathG_zero {h : List Opn} (hg : G h 0 = true) : path h (h.length + 1) 0 = pathG h 0 := path_of hg _ (by have := freeK_le 0 h.length; omega)
theorem run_next (w : World) (g : Bool) (i : Int) : (Instr.field 60 (.agg #[.bool g, .int .i64 i]) 1).run Try.prog w = .ok (.int .i64 i) w := by
  have hp : (part 3 #[.bool g, .int .i64 i] 1).run Try.prog w = .ok (.int .i64 i) w := run_part_plain (w := w) (by kernel_rfl) rfl
  simp [Instr.field, run_underlying Try.underlying60, Result.andThen, asAgg, hp]
attribute [local go_sem] run_next

/-- The error of linear.check. -/
def lErr (h : List Opn) : Int := if 16 < h.length then 6 else if (chkL h).2 = 0 then 0 else 1
theorem lcheck_many (v : Value) (h : List Opn) (W : World) (hr : ReadsO W v h) (hn : 16 < h.length) : Calls Try.prog 28 #[v] W (fun e w' => e = .returned (.int .i64 6) ∧ w' = W) := by
  obtain ⟨ao, cap, rfl, hl, hcm, -, -⟩ := hr
  unfold maxLen at hcm
  have hi : (16 : Int) < h.length := by omega
  go_enter Try.func28, Try.ntmps28
  go_wp2
  go_ret
  exact ⟨rfl, rfl⟩
theorem lcheck_any (v : Value) (h : List Opn) (W : World) (hr : ReadsO W v h) (hs : SmallH h) (hn : h.length ≤ 16) : Calls Try.prog 28 #[v] W (fun e w' => e = .returned (.int .i64 (if (chkL h).2 = 0 then 0 else 1)) ∧ Below W.heap.size W w') := by
  have HC := Lib.hid (check_any v h W hr hs)
  obtain ⟨ao, cap, rfl, hl, hcm, -, -⟩ := hr
  unfold maxLen at hcm
  have hi : ¬ (16 : Int) < h.length := by omega
  clear hs
  by_cases h0 : (chkL h).2 = 0
  · have e0 := bne_f h0
    rw [if_pos h0]
    clear h0
    go_enter Try.func28, Try.ntmps28
    go_wp2_with fail
    refine HC.out.mono ?_
    rintro e w1 ⟨rfl, hb⟩
    have HB := Lib.hid hb
    clear hb
    go_wp2
    go_ret
    exact ⟨rfl, HB.out⟩
  · have e0 := bne_t h0
    rw [if_neg h0]
    clear h0
    go_enter Try.func28, Try.ntmps28
    go_wp2_with fail
    refine HC.out.mono ?_
    rintro e w1 ⟨rfl, hb⟩
    have HB := Lib.hid hb
    clear hb
    go_wp2
    go_ret
    exact ⟨rfl, HB.out⟩

/-- What linear.Check gives: a list, whether there is one, a code. -/
def LRes (h : List Opn) (bud : Int) (L : List Int) (b : Bool) (c : Int) : Prop :=
  (((¬ (chkL h).2 = 0 ∨ bud < 1) ∧ L = [] ∧ b = false ∧ c = 1)) ∨ (((chkL h).2 = 0 ∧ 1 ≤ bud) ∧
    ((bud ≤ ((h.length * 2 ^ h.length : Nat) : Int) ∧ L = [] ∧ b = false ∧ c = 7) ∨ (G h 0 = false ∧ L = [] ∧ b = false ∧ c = 0) ∨ (G h 0 = true ∧ L = intsN (pathG h 0) ∧ b = true ∧ c = 0)))
def LMade (w : World) (h : List Opn) (bud : Int) (e : Ending) (w' : World) : Prop :=
  ∃ v L b c, e = .returned (.tuple #[v, .bool b, .int .i64 c]) ∧ Reads vi w' v L ∧ LRes h bud L b c ∧ Below w.heap.size w w'
theorem lmade {w w' : World} {h : List Opn} {bud : Int} {v : Value} {L : List Int} {b : Bool} {c : Int} (hr : Reads vi w' v L) (hres : LRes h bud L b c) (hb : Below w.heap.size w w') : LMade w h bud (.returned (.tuple #[v, .bool b, .int .i64 c])) w' := ⟨v, L, b, c, rfl, hr, hres, hb⟩
theorem one_readsI (w : World) (x : Int) : Reads vi (w.alloc (.cells #[.int .i64 x] 3)) (.slice (some ⟨w.heap.size, 0, none⟩) 1 1) [x] :=
  Reads.at (xs := [x]) (Nat.le_refl 1) (by unfold maxLen; omega) (by simp) fun j hj => by
    have h0 : j = 0 := by simpa using hj
    subst h0
    exact (Blk.new w 3 #[.int .i64 x]).cell 0

set_option maxRecDepth 100000 in
set_option maxHeartbeats 8000000 in
theorem lCheck_any (v : Value) (h : List Opn) (bud : Int) (W : World) (hr : ReadsO W v h) (hs : SmallH h) (hn : h.length ≤ 16) : Calls Try.prog 14 #[v, .int .i64 bud] W (LMade W h bud) := by
  have HR := Lib.hid hr
  have HS := Lib.hid hs
  have HC := Lib.hid (lcheck_any v h W hr hs hn)
  have hslc := Slc.of_readsK hr
  obtain ⟨xa, xn, xk, rfl⟩ := hslc
  clear hr hs
  go_enter Try.func14, Try.ntmps14
  by_cases h0 : (chkL h).2 = 0
  · have H0 := Lib.hid h0
    rw [if_pos h0] at HC
    clear h0
    go_wp2_with fail
    refine HC.out.mono ?_
    rintro e w1 ⟨rfl, hb1⟩
    have KW1 := Lib.hid hb1
    clear hb1 HC
    by_cases hb : bud < 1
    · have HRS : Hid (LRes h bud [] false 1) := Lib.hid (.inl ⟨.inr hb, rfl, rfl, rfl⟩)
      go_wp2
      refine bodyPost_ret (v := .tuple #[.slice none 0 0, .bool false, .int .i64 1]) (by simp [results, Try.results14, go_sem]) rfl ?_
      exact lmade (Reads.nil _) HRS.out KW1.out
    · have HNB := Lib.hid hb
      have HSTA := Lib.hid (start_any _ h w1 (HR.out.on KW1.out) hn)
      go_wp2_with fail
      refine HSTA.out.mono ?_
      rintro e w2 ⟨gs, gm, rfl, hgs, hgm, hne, hsr⟩
      have KW2 := Lib.hid (KW1.out.trans (hsr.2.2.mono KW1.out.size))
      have HFD : Hid (Fd w1 w2 gs gm (.slice xa xn xk) h ((0 : Nat) : Int) 0 (fun _ => none)) := Lib.hid ⟨hsr.1, MapAt.ofEmpty entT hsr.2.1, hgs, hgm, hne, hsr.2.2⟩
      have HFI := Lib.hid (find_any w1 gs gm (.slice xa xn xk) h (HR.out.on KW1.out) HS.out hn (freeK 0 h.length + 1) 0 bud (fun _ => none) [] 0 0 0 w2 (by omega) (Nat.two_pow_pos _) HFD.out
        ⟨(fun s e hq => by cases hq), List.nodup_nil, (fun s hq => by cases hq), (fun s hq => by cases hq), Nat.le_refl _, Nat.zero_le _⟩ (fun s hq => by cases hq))
      clear hsr HSTA
      go_wp2_with fail
      refine HFI.out.mono ?_
      rintro e w3 (⟨M, E, n3, st, rfl, f3, mem3, -, -, hd3⟩ | ⟨rfl, hbu, hbel⟩)
      · have HF3 := Lib.hid f3
        have HM3 := Lib.hid mem3
        have HD3 := Lib.hid hd3
        have KW3 := Lib.hid (KW1.out.trans (f3.bel.mono KW1.out.size))
        clear f3 mem3 hd3 HFI HFD
        cases hg : G h 0 with
        | false =>
          have HRS : Hid (LRes h bud [] false 0) := Lib.hid (.inr ⟨⟨H0.out, by have := HNB.out; omega⟩, .inr (.inl ⟨hg, rfl, rfl, rfl⟩)⟩)
          clear hg
          go_wp2
          refine bodyPost_ret (v := .tuple #[.slice none 0 0, .bool false, .int .i64 0]) (by simp [results, Try.results14, go_sem]) rfl ?_
          exact lmade (Reads.nil _) HRS.out KW3.out
        | true =>
          have HG := Lib.hid hg
          clear hg
          go_wp2
          go_loopg [11, 12] (freeK 0 h.length) (fun mm o s wr => ∃ (m : Nat) (L : List Nat), mm = freeK m h.length ∧ s = .int .u32 ((m : Nat) : Int) ∧ m < 2 ^ h.length ∧ G h m = true ∧ (doneB h m = true ∨ (M m).isSome = true) ∧ pathG h 0 = L ++ pathG h m ∧ L.length + freeK m h.length ≤ h.length ∧
            wr.ownsRow w3.heap.size 3 1 o L.length ((intsN L).map vi) ∧ Below w3.heap.size w3 wr)
          case atStart => exact ⟨0, [], rfl, rfl, Nat.two_pow_pos _, HG.out, HD3.out HG.out, rfl, by have := freeK_le 0 h.length; simpa using this, World.ownsRow_made w3 #[] 0 (Nat.le_refl _) (Nat.zero_le _) rfl, (Below.refl _ _).alloc (Nat.le_refl _) _⟩
          case round =>
            obtain ⟨m, L, hmm, rfl, hm, hgm2, hdm, hp, hle, hown, hbel⟩ := hrel
            have HMM := Lib.hid hmm
            have HML := Lib.hid hm
            have HGM := Lib.hid hgm2
            have HDM := Lib.hid hdm
            have HP := Lib.hid hp
            have HO := Lib.hid hown
            have KB := Lib.hid hbel
            have HFW := Lib.hid (HF3.out.on hbel)
            have hm16 : m < 65536 := Nat.lt_of_lt_of_le hm (Nat.pow_le_pow_right (by omega) hn)
            have hmu : mustK h h.length < 65536 := mask16 _ hn
            have han := u32_andNot_nat (mustK h h.length) m (by omega) (by omega)
            have HDN := Lib.hid (andNot_done hn hm16)
            have g1 : wr.cell? ⟨gs, 1, none⟩ = some (.int .u32 ((mustK h h.length : Nat) : Int)) := HFW.out.blk.cell 1
            have g18 : wr.cell? ⟨gs, 18, none⟩ = some (.map (some gm)) := HFW.out.blk.cell 18
            generalize mustK h h.length &&& (4294967295 - m) = A at *
            clear hmm hm hgm2 hdm hp hown hbel
            by_cases hA : A = 0
            · have HDO := Lib.hid (HDN.out.2 hA)
              rw [hA] at han
              have HRS : Hid (LRes h bud (intsN L) true 0) := Lib.hid (.inr ⟨⟨H0.out, by have := HNB.out; omega⟩, .inr (.inr ⟨HG.out, by rw [HP.out, pathG_done HDO.out, List.append_nil], rfl, rfl⟩)⟩)
              have HRD : Hid (Reads vi wr u11 (intsN L)) := Lib.hid (Reads.of_owns HO.out)
              clear hA HDN
              go_wp2
              refine bodyPost_ret (v := .tuple #[u11, .bool true, .int .i64 0]) (by simp [results, Try.results14, go_sem]) rfl ?_
              exact lmade HRD.out HRS.out (KW3.out.trans (KB.out.mono KW3.out.size))
            · have HDO : Hid (doneB h m = false) := Lib.hid (Bool.eq_false_iff.2 fun e => hA (HDN.out.1 e))
              have hA1 := bne_t (show ¬ (A : Int) = 0 by omega)
              have HNX := Lib.hid (nextI_go HGM.out HDO.out)
              have HPS := Lib.hid (pathG_step HGM.out HDO.out)
              obtain ⟨e0, he0⟩ : ∃ e, M m = some e := Option.isSome_iff_exists.1 (HDM.out.resolve_left (by rw [HDO.out]; exact Bool.false_ne_true))
              have HME : Hid (e0 = (true, ((nextI h m : Nat) : Int)) ∧ (doneB h (addM m (nextI h m)) = true ∨ (M (addM m (nextI h m))).isSome = true)) := Lib.hid (by
                rcases (HM3.out.ok m e0 he0).2 with ⟨_, a, b, _⟩ | ⟨a, _⟩
                · exact ⟨a, b⟩
                · rw [HGM.out] at a; cases a)
              have HV : Hid (entT.V ((M m).getD entT.z0) = .agg #[.bool true, .int .i64 ((nextI h m : Nat) : Int)]) := Lib.hid (by rw [he0, HME.out.1]; rfl)
              have hfk := freeK_add (may_bit (go_may HNX.out.2).1) HNX.out.1
              have hx16 : nextI h m < 16 := Nat.lt_of_lt_of_le HNX.out.1 hn
              have hx32 : ((nextI h m : Nat) : Int) < 32 := by omega
              have hx0 : (0 : Int) ≤ ((nextI h m : Nat) : Int) := by omega
              have hshl := shl_u32 hx16
              have hor := or_u32 hm16 hx16
              have HBX : Hid (∀ o, Below wr.heap.size wr (wr.alloc o)) := Lib.hid fun o => (Below.refl _ _).alloc (Nat.le_refl _) o
              clear hA HDN he0
              generalize nextI h m = x at *
              go_wp2_with (first | (refine wpList_map_get entT rfl (.tmp 43) (.tmp 44) rfl gm n3 M m rfl HFW.out.map rfl (show m < 4294967296 by omega) HV.out ?_) | (at_builtin; refine appendi_reads2 rfl (.tmp 47) (.tmp 49) rfl w3.heap.size _ (.slice (some ⟨wr.heap.size, 0, none⟩) 1 1) L.length (intsN L) [((x : Nat) : Int)] rfl (below_row HO.out (HBX.out _)) rfl (one_readsI wr ((x : Nat) : Int)) (by simp; omega) (Nat.le_trans KB.out.size (HBX.out _).size) ?_))
              intro v8 w8 hown8 hgr8
              have K8 : Hid (Below w3.heap.size w3 w8) := Lib.hid ((KB.out.trans ((HBX.out _).mono KB.out.size)).grown hgr8 (Nat.le_trans KB.out.size (HBX.out _).size) (fun j hj => (HO.out.lt j hj).1))
              have HO8 : Hid (w8.ownsRow w3.heap.size 3 1 v8 (L ++ [x]).length ((intsN (L ++ [x])).map vi)) := Lib.hid (by simpa [intsN] using hown8)
              clear hown8 hgr8 HV
              go_wp2
              go_roundg (freeK (addM m x) h.length)
              case measure => have := HMM.out; omega
              case rel => exact ⟨addM m x, L ++ [x], rfl, rfl, addM_lt HML.out HNX.out.1, (go_may HNX.out.2).2, HME.out.2, by rw [HP.out, HPS.out, List.append_assoc]; rfl, by rw [List.length_append, List.length_singleton]; omega, HO8.out, K8.out⟩
      · have HBE := Lib.hid (KW1.out.trans (hbel.mono KW1.out.size))
        have HRS : Hid (LRes h bud [] false 7) := Lib.hid (.inr ⟨⟨H0.out, by have := HNB.out; omega⟩, .inl ⟨hbu, rfl, rfl, rfl⟩⟩)
        clear hbu hbel HFI
        go_wp2
        refine bodyPost_ret (v := .tuple #[.slice none 0 0, .bool false, .int .i64 7]) (by simp [results, Try.results14, go_sem]) rfl ?_
        exact lmade (Reads.nil _) HRS.out HBE.out
  · have HRS : Hid (LRes h bud [] false 1) := Lib.hid (.inl ⟨.inl h0, rfl, rfl, rfl⟩)
    rw [if_neg h0] at HC
    clear h0
    go_wp2_with fail
    refine HC.out.mono ?_
    rintro e w1 ⟨rfl, hb1⟩
    have KW1 := Lib.hid hb1
    clear hb1 HC
    go_wp2
    refine bodyPost_ret (v := .tuple #[.slice none 0 0, .bool false, .int .i64 1]) (by simp [results, Try.results14, go_sem]) rfl ?_
    exact lmade (Reads.nil _) HRS.out KW1.out
end Go.Proofs.Ytgaolgfjbgflgaa
