/-
  Chapter 56: the enumeration of the reference (from, All): lists of lists of ints of the call's own.
-/
import Derived.Test.YtgaolgfjbgflgaaLp2
import Derived.Test.YtgaolgfjbgflgaaHh
import Derived.Test.YtgaolgfjbgflgaaLj
namespace Go.Proofs.Ytgaolgfjbgflgaa
open Go.RowKit

theorem Try.infoLs : (Try.prog.info? 25).map (fun i => (i.zero, i.size, i.bytes)) = some (some (.slice none 0 0), 1, 24) := by kernel_rfl
/-- A row of ints. -/
def RowI (w : World) (u : Value) (l : List Nat) : Prop := w.ownsRow 0 3 1 u l.length ((intsN l).map vi)
/-- Blocks of ints stay. -/
def KeepI (w w' : World) : Prop := ∀ g cur, Blk w g 3 cur → Blk w' g 3 cur
theorem KeepI.refl (w : World) : KeepI w w := fun _ _ h => h
theorem KeepI.trans {a b c : World} (h : KeepI a b) (k : KeepI b c) : KeepI a c := fun g cur hg => k g cur (h g cur hg)
theorem KeepI.of {w w' : World} (h : Below w.heap.size w w') : KeepI w w' := fun _ _ hg => hg.on h
theorem RowI.kept {w w' : World} {u : Value} {l : List Nat} (h : RowI w u l) (hk : KeepI w w') : RowI w' u l := by
  refine ⟨h.1, ?_⟩
  rcases h.2 with hn | ⟨g, cap, cur, hv, hb, hg, rest⟩
  · exact .inl hn
  · exact .inr ⟨g, cap, cur, hv, hb, hk g cur hg, rest⟩
theorem RowI.reads {w : World} {u : Value} {l : List Nat} (h : RowI w u l) : Reads vi w u (intsN l) := Reads.of_owns h
theorem KeepI.grown {w w' : World} {b n : Nat} {v : Value} {xs : List Value} (h : w.ownsRow b 25 1 v n xs) (hg : w.grownBy w' v.ownBlock) : KeepI w w' := by
  intro g cur hB
  refine (hg.block g hB.lt fun e => ?_).trans hB
  rcases h.2 with ⟨rfl, _⟩ | ⟨g1, c1, cur1, rfl, _, hg1, _⟩
  · simp [Value.ownBlock] at e
  · simp [Value.ownBlock] at e
    subst e
    unfold Blk at hB
    rw [hg1] at hB
    injection hB with hB
    injection hB with _ ht
    exact absurd ht (by decide)
theorem row_zero {w : World} {b : Nat} {e : TypeId} {s n : Nat} {v : Value} {xs : List Value} (h : w.ownsRow b e s v n xs) : w.ownsRow 0 e s v n xs := by
  refine ⟨h.1, ?_⟩
  rcases h.2 with hn | ⟨g, cap, cur, hv, hbb, rest⟩
  · exact .inl hn
  · exact .inr ⟨g, cap, cur, hv, Nat.zero_le _, rest⟩
/-- A list of lists of the call's own. -/
def OwnL (w0 wr : World) (v : Value) (LL : List (List Nat)) : Prop :=
  Below w0.heap.size w0 wr ∧ ∃ cells : List Value, wr.ownsRow w0.heap.size 25 1 v LL.length cells ∧ ∀ k (h : k < LL.length), ∃ u, cells[k]? = some u ∧ RowI wr u LL[k]
theorem OwnL.later {w0 wr w' : World} {v : Value} {LL : List (List Nat)} (h : OwnL w0 wr v LL) (hb : Below wr.heap.size wr w') : OwnL w0 w' v LL := by
  obtain ⟨h1, cells, h2, h3⟩ := h
  exact ⟨h1.trans (hb.mono h1.size), cells, below_row h2 hb, fun k hk => by obtain ⟨u, a, b⟩ := h3 k hk; exact ⟨u, a, b.kept (KeepI.of hb)⟩⟩
theorem rowI_slc {w : World} {u : Value} {l : List Nat} (h : RowI w u l) : ∃ a k, u = .slice a l.length k := row_slc h
set_option maxRecDepth 100000 in
/-- append of one list. -/
theorem append_list {ops : Array Oper} {rest : List Oper} {o : Oper} {a : Act} {w w0 : World} {Q : Exit → Act → World → Prop} (hgd : o.guard = none) (s x : Operand)
    (ho : o.op = .call { callee := .builtin .append, args := #[s, x], argTypes := #[30, 30] })
    (v : Value) (LL : List (List Nat)) (l : List Nat) (u : Value) (g : Nat) (hs : a.eval s = v) (hown : OwnL w0 w v LL) (hx : a.eval x = .slice (some ⟨g, 0, none⟩) 1 1) (hB : Blk w g 25 #[u]) (hu : RowI w u l) (hlen : LL.length ≤ 1000000)
    (h : ∀ v' w', OwnL w0 w' v' (LL ++ [l]) → KeepI w w' → w.heap.size ≤ w'.heap.size → wpList Try.prog ops Q rest (a.put o.dst v') w') : wpList Try.prog ops Q (o :: rest) a w := by
  obtain ⟨i0, hinf, hz0, hz1, hz2⟩ := info_parts Try.infoLs
  obtain ⟨hb, cells, hrow, hc⟩ := hown
  obtain ⟨ua, uk, rfl⟩ := rowI_slc hu
  refine wpList_append_own w hgd s x 30 ho w0.heap.size 25 i0 _ 1 24 Try.underlying30 hinf hz0 hz1 hz2 rfl (by decide) v LL.length cells hs hrow ⟨g, 0, none⟩ 1 1 [.slice ua l.length uk] hx rfl ?_ (fun z hz => by rw [List.mem_singleton.1 hz]; rfl) (by unfold maxLen; omega) (by omega) hb.size ?_
  · intro j z hz
    have h1 := hB.cell j
    have h2 : (#[Value.slice ua l.length uk])[j]? = some z := by simpa using hz
    rw [← h2, ← h1]
    by_cases h0 : j = 0 <;> simp [Addr.add, h0]
  · intro v' w' h1 h2 _
    have hk := KeepI.grown hrow h2
    refine h v' w' ⟨hb.grown h2 hb.size (fun j hj => (hrow.lt j hj).1), cells ++ [.slice ua l.length uk], by rw [List.length_append]; exact h1, fun k hkl => ?_⟩ hk h2.size
    have hcl : cells.length = LL.length := by simpa using hrow.1
    by_cases hlt : k < LL.length
    · obtain ⟨z, q1, q2⟩ := hc k hlt
      exact ⟨z, by rw [List.getElem?_append_left (by omega)]; exact q1, by rw [List.getElem_append_left hlt]; exact q2.kept hk⟩
    · have hk' : k = LL.length := by simp at hkl; omega
      subst hk'
      exact ⟨.slice ua l.length uk, by rw [List.getElem?_append_right (by omega), hcl, Nat.sub_self]; rfl, by rw [List.getElem_append_right (Nat.le_refl _)]; simpa using hu.kept hk⟩
/-- The lists from a beginning, by the operations before k. -/
def frmK (h : List Opn) (f : Nat) (l : List Nat) (k : Nat) : List (List Nat) := (if compB h l = true then [l] else []) ++ (List.range k).flatMap fun x => if nextB h l x = true then frm h f (l ++ [x]) else []
theorem frmK_all (h : List Opn) (f : Nat) (l : List Nat) : frmK h f l h.length = frm h (f + 1) l := rfl
theorem frmK_yes {h : List Opn} {f k : Nat} {l : List Nat} (hn : nextB h l k = true) : frmK h f l (k + 1) = frmK h f l k ++ frm h f (l ++ [k]) := by unfold frmK; rw [List.range_succ, List.flatMap_append]; simp [hn]
theorem frmK_no {h : List Opn} {f k : Nat} {l : List Nat} (hn : nextB h l k = false) : frmK h f l (k + 1) = frmK h f l k := by unfold frmK; rw [List.range_succ, List.flatMap_append]; simp [hn]
theorem frmK_le (h : List Opn) (f : Nat) (l : List Nat) : ∀ {a b : Nat}, a ≤ b → (frmK h f l a).length ≤ (frmK h f l b).length
  | a, 0, hl => by have : a = 0 := by omega
                   subst this; exact Nat.le_refl _
  | a, b + 1, hl => by
    by_cases he : a = b + 1
    · subst he; exact Nat.le_refl _
    · have h1 := frmK_le h f l (a := a) (b := b) (by omega)
      cases hn : nextB h l b with
      | true => rw [frmK_yes hn, List.length_append]; omega
      | false => rw [frmK_no hn]; exact h1
def FromMade (w0 w : World) (LL : List (List Nat)) (e : Ending) (w' : World) : Prop := ∃ v', e = .returned v' ∧ OwnL w0 w' v' LL ∧ KeepI w w' ∧ w.heap.size ≤ w'.heap.size

set_option maxRecDepth 100000 in
set_option maxHeartbeats 16000000 in
theorem rfrom_any (w0 : World) (hv : Value) (h : List Opn) (hr : ReadsO w0 hv h) (hs : SmallH h) :
    ∀ (f : Nat) (l : List Nat) (LL : List (List Nat)) (u v : Value) (w : World), freeK (maskL l) h.length < f → (∀ z ∈ l, z < h.length) → l.length + f ≤ 60 → OwnL w0 w v LL → RowI w u l → LL.length + (frm h f l).length ≤ 1000000 →
      Calls Try.prog 32 #[hv, u, v] w (FromMade w0 w (LL ++ frm h f l)) := by
  have HR := Lib.hid hr
  have HS := Lib.hid hs
  obtain ⟨ao, cap, rfl, hl, hcm, -, -⟩ := hr
  unfold maxLen at hcm
  clear hs
  intro f
  induction f with
  | zero => intro l LL u v w hd; omega
  | succ f ih =>
    intro l LL u v w hd hlm hlf hown hrow hlen
    have IH := Lib.hid ih
    have HD := Lib.hid hd
    have HLM := Lib.hid hlm
    have HOW := Lib.hid hown
    have HRO := Lib.hid hrow
    have HRW := Lib.hid hrow
    have HLEN : Hid (∀ k, k ≤ h.length → LL.length + (frmK h f l k).length ≤ 1000000) := Lib.hid fun k hk => by
      have := frmK_le h f l hk
      rw [frmK_all] at this
      omega
    have HCO := Lib.hid (rcomplete56 _ u h l w (HR.out.on hown.1) hrow.reads)
    obtain ⟨ua, uk, rfl⟩ := rowI_slc hrow
    clear ih hd hlm hown hrow hlen
    go_enter Try.func32, Try.ntmps32
    go_wp2_with fail
    refine HCO.out.mono ?_
    rintro e w1 ⟨rfl, hb1⟩
    have HO1 := Lib.hid (HOW.out.later hb1)
    have HK1 := Lib.hid (KeepI.of hb1)
    have HZ1 := Lib.hid hb1.size
    have HR1 := Lib.hid (HRO.out.kept HK1.out)
    clear hb1 HCO HOW HRO
    have hll0 := HLEN.out 0 (Nat.zero_le _)
    by_cases hcc : compB h l = true
    · have HF0 : Hid (frmK h f l 0 = [l]) := Lib.hid (by unfold frmK; rw [if_pos hcc]; rfl)
      rw [HF0.out] at hll0
      rw [hcc]
      clear hcc
      have HBX : Hid (∀ c, Below w1.heap.size w1 (w1.alloc c)) := Lib.hid fun c => (Below.refl _ _).alloc (Nat.le_refl _) c
      have hll1 : LL.length + 1 ≤ 1000000 := hll0
      clear hll0
      have HRF : Hid ((w1.alloc (.cells #[] 3)).ownsRow w1.heap.size 3 1 (.slice (some ⟨w1.heap.size, 0, none⟩) 0 0) 0 []) := Lib.hid (World.ownsRow_made w1 #[] 0 (Nat.le_refl _) (Nat.zero_le _) rfl)
      go_wp2_with (first | (at_builtin; refine appendi_reads2 rfl (.tmp 12) (.tmp 13) rfl w1.heap.size (.slice (some ⟨w1.heap.size, 0, none⟩) 0 0) (.slice ua l.length uk) 0 [] (intsN l) rfl HRF.out rfl (HR1.out.kept (KeepI.of (HBX.out _))).reads (by simp [intsN]; omega) (HBX.out _).size ?_))
      intro v2 w2 hown2 hgr2
      have K2 : Hid (Below w1.heap.size w1 w2) := Lib.hid ((HBX.out _).grown hgr2 (HBX.out _).size (fun j hj => (HRF.out.lt j hj).1))
      have hrow2 : RowI w2 v2 l := row_zero (b := w1.heap.size) (by simpa [intsN] using hown2)
      have HR2 := Lib.hid hrow2
      obtain ⟨a2, k2, rfl⟩ := rowI_slc hrow2
      have HO2 := Lib.hid (HO1.out.later K2.out)
      have HBY : Hid (∀ c, Below w2.heap.size w2 (w2.alloc c)) := Lib.hid fun c => (Below.refl _ _).alloc (Nat.le_refl _) c
      clear hown2 hgr2 hrow2 HBX
      go_wp2_with (first | (at_builtin; refine append_list rfl (.tmp 11) (.tmp 15) rfl _ LL l (.slice a2 l.length k2) w2.heap.size rfl (HO2.out.later (HBY.out _)) rfl (Blk.new _ _ _) (HR2.out.kept (KeepI.of (HBY.out _))) (by omega) ?_))
      intro v3 w3 hown3 hk3 hz3
      have HO3 : Hid (OwnL w0 w3 v3 (LL ++ frmK h f l 0)) := Lib.hid (by rw [HF0.out]; exact hown3)
      have HK3 := Lib.hid (HK1.out.trans ((KeepI.of K2.out).trans ((KeepI.of (HBY.out _)).trans hk3)))
      have HZ3 := Lib.hid (Nat.le_trans HZ1.out (Nat.le_trans K2.out.size (Nat.le_trans (Nat.le_succ _) hz3)))
      clear hown3 hk3 hz3 HBY HO2 HR2 K2 HO1 HZ1
      go_wp2
      go_loopg [2, 7] h.length (fun m o i wr => ∃ k : Nat, m + k = h.length ∧ i = .int .i64 k ∧ OwnL w0 wr o (LL ++ frmK h f l k) ∧ KeepI w wr ∧ w.heap.size ≤ wr.heap.size)
      case atStart => exact ⟨0, by omega, rfl, HO3.out, HK3.out, HZ3.out⟩
      case round =>
        clear HO3 HK3 HZ3
        obtain ⟨k, hmk, rfl, hown, hkeep, hsz⟩ := hrel
        have HM := Lib.hid hmk
        have HO := Lib.hid hown
        have HK := Lib.hid hkeep
        have HZ := Lib.hid hsz
        have HU := Lib.hid (HRW.out.kept HK.out)
        have hk : k ≤ h.length := by omega
        clear hmk hown hkeep hsz
        by_cases hlt : k < h.length
        · have hki : (k : Int) < h.length := by omega
          have hk0 : (0 : Int) ≤ (k : Int) := by omega
          have HRN := Lib.hid (rnext_any _ (.slice ua l.length uk) h l k wr (HR.out.on HO.out.1) HU.out.reads HS.out hlt HLM.out (by omega))
          have HLT := Lib.hid (And.intro hlt trivial)
          clear hlt
          by_cases hnx : nextB h l k = true
          · have HFK := Lib.hid (frmK_yes (f := f) hnx)
            have HNI := Lib.hid (next_iff.1 hnx).1
            rw [hnx] at HRN
            clear hnx
            have hln := HLEN.out (k + 1) HLT.out.1
            rw [HFK.out, List.length_append] at hln
            go_wp2_with fail
            refine HRN.out.mono ?_
            rintro e w4 ⟨rfl, hb4⟩
            have HO4 := Lib.hid (HO.out.later hb4)
            have HK4 := Lib.hid (HK.out.trans (KeepI.of hb4))
            have HZ4 := Lib.hid (Nat.le_trans HZ.out hb4.size)
            have HU4 := Lib.hid (HU.out.kept (KeepI.of hb4))
            have HBX : Hid (∀ c, Below w4.heap.size w4 (w4.alloc c)) := Lib.hid fun c => (Below.refl _ _).alloc (Nat.le_refl _) c
            have HRF : Hid ((w4.alloc (.cells #[] 3)).ownsRow w4.heap.size 3 1 (.slice (some ⟨w4.heap.size, 0, none⟩) 0 0) 0 []) := Lib.hid (World.ownsRow_made w4 #[] 0 (Nat.le_refl _) (Nat.zero_le _) rfl)
            clear hb4 HO HK HZ HU HRN
            go_wp2_with (first | (at_builtin; refine appendi_reads2 rfl (.tmp 28) (.tmp 29) rfl w4.heap.size (.slice (some ⟨w4.heap.size, 0, none⟩) 0 0) (.slice ua l.length uk) 0 [] (intsN l) rfl HRF.out rfl (HU4.out.kept (KeepI.of (HBX.out _))).reads (by simp [intsN]; omega) (HBX.out _).size ?_))
            intro v5 w5 hown5 hgr5
            have K5 : Hid (Below w4.heap.size w4 w5) := Lib.hid ((HBX.out _).grown hgr5 (HBX.out _).size (fun j hj => (HRF.out.lt j hj).1))
            have HO5 : Hid (w5.ownsRow w4.heap.size 3 1 v5 l.length ((intsN l).map vi)) := Lib.hid (by simpa [intsN] using hown5)
            have HBY : Hid (∀ c, Below w5.heap.size w5 (w5.alloc c)) := Lib.hid fun c => (Below.refl _ _).alloc (Nat.le_refl _) c
            clear hown5 hgr5
            go_wp2_with (first | (at_builtin; refine appendi_reads2 rfl (.tmp 30) (.tmp 32) rfl w4.heap.size v5 (.slice (some ⟨w5.heap.size, 0, none⟩) 1 1) l.length (intsN l) [((k : Nat) : Int)] rfl ?_ rfl ?_ ?_ ?_ ?_))
            · exact below_row HO5.out (HBY.out _)
            · exact one_readsI w5 ((k : Nat) : Int)
            · rw [List.length_singleton]; omega
            · exact Nat.le_trans K5.out.size (HBY.out _).size
            intro v6 w6 hown6 hgr6
            have K6 : Hid (Below w4.heap.size w4 w6) := Lib.hid ((K5.out.trans ((HBY.out _).mono K5.out.size)).grown hgr6 (Nat.le_trans K5.out.size (HBY.out _).size) (fun j hj => (HO5.out.lt j hj).1))
            have HO6 : Hid (RowI w6 v6 (l ++ [k])) := Lib.hid (row_zero (b := w4.heap.size) (by simpa [intsN] using hown6))
            have HOL6 := Lib.hid (HO4.out.later K6.out)
            have HK6 := Lib.hid (HK4.out.trans (KeepI.of K6.out))
            have HZ6 := Lib.hid (Nat.le_trans HZ4.out K6.out.size)
            clear hown6 hgr6 HO5 HBY HBX
            have HRC := Lib.hid (IH.out (l ++ [k]) (LL ++ frmK h f l k) v6 _ w6 (by
              have h1 := freeK_add (m := maskL l) (by rw [maskL_bit]; exact decide_eq_false HNI.out) HLT.out.1
              have h2 := HD.out
              rw [maskL_snoc]; omega) (fun z hz => by
                rcases List.mem_append.1 hz with h1 | h1
                · exact HLM.out z h1
                · rw [List.mem_singleton.1 h1]; exact HLT.out.1) (by rw [List.length_append, List.length_singleton]; omega) HOL6.out HO6.out (by rw [List.length_append]; omega))
            go_wp2_with fail
            refine HRC.out.mono ?_
            rintro e w7 ⟨v7, rfl, ho7, hk7, hz7⟩
            have HO7 : Hid (OwnL w0 w7 v7 (LL ++ frmK h f l (k + 1))) := Lib.hid (by rw [HFK.out, ← List.append_assoc]; exact ho7)
            have HK7 := Lib.hid (HK6.out.trans hk7)
            have HZ7 := Lib.hid (Nat.le_trans HZ6.out hz7)
            clear ho7 hk7 hz7 HRC HO4 HK4 HZ4 HU4 K5 K6 HO6 HOL6 HK6 HZ6
            go_wp2
            go_roundg (h.length - (k + 1))
            case measure => have := HM.out; omega
            case rel => exact ⟨k + 1, by omega, by go_num, HO7.out, HK7.out, HZ7.out⟩
          · have HFK := Lib.hid (frmK_no (f := f) (Bool.eq_false_iff.2 hnx))
            rw [Bool.eq_false_iff.2 hnx] at HRN
            clear hnx
            go_wp2_with fail
            refine HRN.out.mono ?_
            rintro e w4 ⟨rfl, hb4⟩
            have HO4 : Hid (OwnL w0 w4 _ (LL ++ frmK h f l (k + 1))) := Lib.hid (by rw [HFK.out]; exact HO.out.later hb4)
            have HK4 := Lib.hid (HK.out.trans (KeepI.of hb4))
            have HZ4 := Lib.hid (Nat.le_trans HZ.out hb4.size)
            clear hb4 HO HK HZ HU HRN
            go_wp2
            go_roundg (h.length - (k + 1))
            case measure => have := HM.out; omega
            case rel => exact ⟨k + 1, by omega, by go_num, HO4.out, HK4.out, HZ4.out⟩
        · have hkk : k = h.length := by omega
          subst hkk
          have HEQ := Lib.hid (frmK_all h f l)
          go_wp2
          go_ret
          exact ⟨_, rfl, by rw [← HEQ.out]; exact HO.out, HK.out, HZ.out⟩
    · have hcf := Bool.eq_false_iff.2 hcc
      have HO1b : Hid (OwnL w0 w1 v (LL ++ frmK h f l 0)) := Lib.hid (by
        have : frmK h f l 0 = [] := by unfold frmK; rw [if_neg hcc]; rfl
        rw [this, List.append_nil]; exact HO1.out)
      rw [hcf]
      clear hcc hcf hll0 HO1
      have HK1b := HK1
      go_wp2
      go_loopg [2, 7] h.length (fun m o i wr => ∃ k : Nat, m + k = h.length ∧ i = .int .i64 k ∧ OwnL w0 wr o (LL ++ frmK h f l k) ∧ KeepI w wr ∧ w.heap.size ≤ wr.heap.size)
      case atStart => exact ⟨0, by omega, rfl, HO1b.out, HK1b.out, HZ1.out⟩
      case round =>
        clear HO1b HK1b HZ1
        obtain ⟨k, hmk, rfl, hown, hkeep, hsz⟩ := hrel
        have HM := Lib.hid hmk
        have HO := Lib.hid hown
        have HK := Lib.hid hkeep
        have HZ := Lib.hid hsz
        have HU := Lib.hid (HRW.out.kept HK.out)
        have hk : k ≤ h.length := by omega
        clear hmk hown hkeep hsz
        by_cases hlt : k < h.length
        · have hki : (k : Int) < h.length := by omega
          have hk0 : (0 : Int) ≤ (k : Int) := by omega
          have HRN := Lib.hid (rnext_any _ (.slice ua l.length uk) h l k wr (HR.out.on HO.out.1) HU.out.reads HS.out hlt HLM.out (by omega))
          have HLT := Lib.hid (And.intro hlt trivial)
          clear hlt
          by_cases hnx : nextB h l k = true
          · have HFK := Lib.hid (frmK_yes (f := f) hnx)
            have HNI := Lib.hid (next_iff.1 hnx).1
            rw [hnx] at HRN
            clear hnx
            have hln := HLEN.out (k + 1) HLT.out.1
            rw [HFK.out, List.length_append] at hln
            go_wp2_with fail
            refine HRN.out.mono ?_
            rintro e w4 ⟨rfl, hb4⟩
            have HO4 := Lib.hid (HO.out.later hb4)
            have HK4 := Lib.hid (HK.out.trans (KeepI.of hb4))
            have HZ4 := Lib.hid (Nat.le_trans HZ.out hb4.size)
            have HU4 := Lib.hid (HU.out.kept (KeepI.of hb4))
            have HBX : Hid (∀ c, Below w4.heap.size w4 (w4.alloc c)) := Lib.hid fun c => (Below.refl _ _).alloc (Nat.le_refl _) c
            have HRF : Hid ((w4.alloc (.cells #[] 3)).ownsRow w4.heap.size 3 1 (.slice (some ⟨w4.heap.size, 0, none⟩) 0 0) 0 []) := Lib.hid (World.ownsRow_made w4 #[] 0 (Nat.le_refl _) (Nat.zero_le _) rfl)
            clear hb4 HO HK HZ HU HRN
            go_wp2_with (first | (at_builtin; refine appendi_reads2 rfl (.tmp 28) (.tmp 29) rfl w4.heap.size (.slice (some ⟨w4.heap.size, 0, none⟩) 0 0) (.slice ua l.length uk) 0 [] (intsN l) rfl HRF.out rfl (HU4.out.kept (KeepI.of (HBX.out _))).reads (by simp [intsN]; omega) (HBX.out _).size ?_))
            intro v5 w5 hown5 hgr5
            have K5 : Hid (Below w4.heap.size w4 w5) := Lib.hid ((HBX.out _).grown hgr5 (HBX.out _).size (fun j hj => (HRF.out.lt j hj).1))
            have HO5 : Hid (w5.ownsRow w4.heap.size 3 1 v5 l.length ((intsN l).map vi)) := Lib.hid (by simpa [intsN] using hown5)
            have HBY : Hid (∀ c, Below w5.heap.size w5 (w5.alloc c)) := Lib.hid fun c => (Below.refl _ _).alloc (Nat.le_refl _) c
            clear hown5 hgr5
            go_wp2_with (first | (at_builtin; refine appendi_reads2 rfl (.tmp 30) (.tmp 32) rfl w4.heap.size v5 (.slice (some ⟨w5.heap.size, 0, none⟩) 1 1) l.length (intsN l) [((k : Nat) : Int)] rfl ?_ rfl ?_ ?_ ?_ ?_))
            · exact below_row HO5.out (HBY.out _)
            · exact one_readsI w5 ((k : Nat) : Int)
            · rw [List.length_singleton]; omega
            · exact Nat.le_trans K5.out.size (HBY.out _).size
            intro v6 w6 hown6 hgr6
            have K6 : Hid (Below w4.heap.size w4 w6) := Lib.hid ((K5.out.trans ((HBY.out _).mono K5.out.size)).grown hgr6 (Nat.le_trans K5.out.size (HBY.out _).size) (fun j hj => (HO5.out.lt j hj).1))
            have HO6 : Hid (RowI w6 v6 (l ++ [k])) := Lib.hid (row_zero (b := w4.heap.size) (by simpa [intsN] using hown6))
            have HOL6 := Lib.hid (HO4.out.later K6.out)
            have HK6 := Lib.hid (HK4.out.trans (KeepI.of K6.out))
            have HZ6 := Lib.hid (Nat.le_trans HZ4.out K6.out.size)
            clear hown6 hgr6 HO5 HBY HBX
            have HRC := Lib.hid (IH.out (l ++ [k]) (LL ++ frmK h f l k) v6 _ w6 (by
              have h1 := freeK_add (m := maskL l) (by rw [maskL_bit]; exact decide_eq_false HNI.out) HLT.out.1
              have h2 := HD.out
              rw [maskL_snoc]; omega) (fun z hz => by
                rcases List.mem_append.1 hz with h1 | h1
                · exact HLM.out z h1
                · rw [List.mem_singleton.1 h1]; exact HLT.out.1) (by rw [List.length_append, List.length_singleton]; omega) HOL6.out HO6.out (by rw [List.length_append]; omega))
            go_wp2_with fail
            refine HRC.out.mono ?_
            rintro e w7 ⟨v7, rfl, ho7, hk7, hz7⟩
            have HO7 : Hid (OwnL w0 w7 v7 (LL ++ frmK h f l (k + 1))) := Lib.hid (by rw [HFK.out, ← List.append_assoc]; exact ho7)
            have HK7 := Lib.hid (HK6.out.trans hk7)
            have HZ7 := Lib.hid (Nat.le_trans HZ6.out hz7)
            clear ho7 hk7 hz7 HRC HO4 HK4 HZ4 HU4 K5 K6 HO6 HOL6 HK6 HZ6
            go_wp2
            go_roundg (h.length - (k + 1))
            case measure => have := HM.out; omega
            case rel => exact ⟨k + 1, by omega, by go_num, HO7.out, HK7.out, HZ7.out⟩
          · have HFK := Lib.hid (frmK_no (f := f) (Bool.eq_false_iff.2 hnx))
            rw [Bool.eq_false_iff.2 hnx] at HRN
            clear hnx
            go_wp2_with fail
            refine HRN.out.mono ?_
            rintro e w4 ⟨rfl, hb4⟩
            have HO4 : Hid (OwnL w0 w4 _ (LL ++ frmK h f l (k + 1))) := Lib.hid (by rw [HFK.out]; exact HO.out.later hb4)
            have HK4 := Lib.hid (HK.out.trans (KeepI.of hb4))
            have HZ4 := Lib.hid (Nat.le_trans HZ.out hb4.size)
            clear hb4 HO HK HZ HU HRN
            go_wp2
            go_roundg (h.length - (k + 1))
            case measure => have := HM.out; omega
            case rel => exact ⟨k + 1, by omega, by go_num, HO4.out, HK4.out, HZ4.out⟩
        · have hkk : k = h.length := by omega
          subst hkk
          have HEQ := Lib.hid (frmK_all h f l)
          go_wp2
          go_ret
          exact ⟨_, rfl, by rw [← HEQ.out]; exact HO.out, HK.out, HZ.out⟩
end Go.Proofs.Ytgaolgfjbgflgaa
