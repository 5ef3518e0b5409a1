/-
  Chapter 55: lists of sets of the call's own, and what Chain computes.
-/
import Derived.Test.YtjijlhjggpibjaaGreatIo
import Derived.Test.YtjijlhjggpibjaaGreatSu
import Derived.Test.YtjijlhjggpibjaaGreatKa
import Derived.Test.YtjijlhjggpibjaaGreatH3
import Derived.Test.YtjijlhjggpibjaaGreatRg
import Derived.Test.YtjijlhjggpibjaaGreatHd
namespace Go.Proofs.YtjijlhjggpibjaaGreat
open Go.RowKit

/-- A row of strings. -/
def RowS (w : World) (u : Value) (l : List Str) : Prop := w.ownsRow 0 9 1 u l.length (l.map vs)
/-- Blocks of strings stay. -/
def KeepS (w w' : World) : Prop := ∀ g cur, Blk w g 9 cur → Blk w' g 9 cur
theorem KeepS.refl (w : World) : KeepS w w := fun _ _ h => h
theorem KeepS.trans {a b c : World} (h : KeepS a b) (k : KeepS b c) : KeepS a c := fun g cur hg => k g cur (h g cur hg)
theorem KeepS.of {w w' : World} (h : Below w.heap.size w w') : KeepS w w' := fun _ _ hg => hg.on h
theorem RowS.kept {w w' : World} {u : Value} {l : List Str} (h : RowS w u l) (hk : KeepS w w') : RowS w' u l := by
  refine ⟨h.1, ?_⟩
  rcases h.2 with hn | ⟨g, cap, cur, hv, hb, hg, rest⟩
  · exact .inl hn
  · exact .inr ⟨g, cap, cur, hv, hb, hk g cur hg, rest⟩
theorem RowS.reads {w : World} {u : Value} {l : List Str} (h : RowS w u l) : Reads vs w u l := Reads.of_owns h
theorem rowS_of {w : World} {b : Nat} {u : Value} {l : List Str} (h : w.ownsRow b 9 1 u l.length (l.map vs)) : RowS w u l := by
  refine ⟨h.1, ?_⟩
  rcases h.2 with hn | ⟨g, cap, cur, hv, hbb, rest⟩
  · exact .inl hn
  · exact .inr ⟨g, cap, cur, hv, Nat.zero_le _, rest⟩
theorem KeepS.grown {w w' : World} {b n : Nat} {v : Value} {xs : List Value} (h : w.ownsRow b 33 1 v n xs) (hg : w.grownBy w' v.ownBlock) : KeepS w w' := by
  intro g cur hB
  refine (hg.block g hB.lt fun e => ?_).trans hB
  rcases h.2 with ⟨rfl, _⟩ | ⟨g1, c1, cur1, rfl, _, hg1, _⟩
  · simp [Value.ownBlock] at e
  · simp [Value.ownBlock] at e
    subst e
    unfold Blk at hB
    rw [hg1] at hB
    injection hB with hB
    injection hB with _ ht
    exact absurd ht (by decide)
theorem rowS_slc {w : World} {u : Value} {l : List Str} (h : RowS w u l) : ∃ a k, u = .slice a l.length k := row_slc h
/-- A list of sets of the call's own. -/
def OwnC (w0 wr : World) (v : Value) (C : List (List Str)) : Prop :=
  Below w0.heap.size w0 wr ∧ ∃ cells : List Value, wr.ownsRow w0.heap.size 33 1 v C.length cells ∧ ∀ k (h : k < C.length), ∃ u, cells[k]? = some u ∧ RowS wr u C[k]
theorem OwnC.nil (w : World) : OwnC w w (.slice none 0 0) [] := ⟨Below.refl _ _, [], by simp [World.ownsRow], fun k h => by simp at h⟩
theorem OwnC.later {w0 wr w' : World} {v : Value} {C : List (List Str)} (h : OwnC w0 wr v C) (hb : Below wr.heap.size wr w') : OwnC w0 w' v C := by
  obtain ⟨h1, cells, h2, h3⟩ := h
  exact ⟨h1.trans (hb.mono h1.size), cells, below_row h2 hb, fun k hk => by obtain ⟨u, a, b⟩ := h3 k hk; exact ⟨u, a, b.kept (KeepS.of hb)⟩⟩
/-- Where a set lies. -/
theorem OwnC.at_ {w0 wr : World} {v : Value} {C : List (List Str)} (h : OwnC w0 wr v C) {k : Nat} (hk : k < C.length) :
    ∃ g cap a c, v = .slice (some ⟨g, 0, none⟩) C.length cap ∧ w0.heap.size ≤ g ∧ g < wr.heap.size ∧ wr.cell? ⟨g, k, none⟩ = some (.slice a C[k].length c) ∧ RowS wr (.slice a C[k].length c) C[k] := by
  obtain ⟨h1, cells, h2, h3⟩ := h
  obtain ⟨u, hu, hr⟩ := h3 k hk
  obtain ⟨a, c, rfl⟩ := rowS_slc hr
  rcases h2.2 with ⟨rfl, h0⟩ | ⟨g, cap, cur, rfl, hb, hg, hn, hm, hs, ht⟩
  · omega
  · have hB : Blk wr g 33 cur := hg
    refine ⟨g, cap, a, c, rfl, hb, hB.lt, ?_, hr⟩
    rw [hB.cell k, ← hu, ← ht, List.getElem?_take, if_pos (by omega), Array.getElem?_toList]
theorem OwnC.one {w : World} {n : Nat} {C : List (List Str)} {cells : List Value} (hl : cells.length = n) (hn : C.length = n) (h : ∀ k (h : k < C.length), ∃ u, cells[k]? = some u ∧ RowS w u C[k]) : ∀ v ∈ cells, v.oneCell' = true := by
  intro v hv
  obtain ⟨k, hk, rfl⟩ := List.getElem_of_mem hv
  obtain ⟨u, hu, hr⟩ := h k (by omega)
  rw [List.getElem?_eq_getElem hk] at hu
  injection hu with hu
  obtain ⟨a, c, rfl⟩ := rowS_slc hr
  rw [hu]; rfl
theorem OwnC.new {w0 wr : World} {v : Value} {C : List (List Str)} (h : OwnC w0 wr v C) : some wr.heap.size ≠ v.ownBlock := fun e => by
  obtain ⟨_, cells, h2, _⟩ := h
  have := (h2.lt _ e.symm).2
  omega
/-- slices.Insert of one set. -/
theorem insert_sets (i g : Nat) (v u : Value) (C : List (List Str)) (x : List Str) (w0 w : World) (hown : OwnC w0 w v C) (hi : i ≤ C.length) (hbig : C.length ≤ 1000000)
    (hB : Blk w g 33 #[u]) (hne : some g ≠ v.ownBlock) (hu : RowS w u x) :
    Calls Tryz.prog 30 #[v, .int .i64 (i : Int), .slice (some ⟨g, 0, none⟩) 1 1] w fun e w' =>
      ∃ v', e = .returned v' ∧ OwnC w0 w' v' (C.take i ++ x :: C.drop i) ∧ KeepS w w' := by
  obtain ⟨hb, cells, hrow, hc⟩ := hown
  have hcl : cells.length = C.length := by simpa using hrow.1
  obtain ⟨ua, uk, rfl⟩ := rowS_slc hu
  refine (insert_own w0.heap.size C.length i g v cells _ w _ hrow hi hbig hb.size hB hne rfl (OwnC.one hcl rfl hc)).mono ?_
  rintro e w' ⟨v', rfl, h1, h2⟩
  have hk := KeepS.grown hrow h2
  have hlen : (C.take i ++ x :: C.drop i).length = C.length + 1 := by simp; omega
  refine ⟨v', rfl, ⟨hb.grown h2 hb.size (fun j hj => (hrow.lt j hj).1), cells.take i ++ .slice ua x.length uk :: cells.drop i, by rw [hlen]; exact h1, fun k hkl => ?_⟩, hk⟩
  rw [hlen] at hkl
  by_cases e1 : k < i
  · obtain ⟨z, q1, q2⟩ := hc k (by omega)
    refine ⟨z, ?_, ?_⟩
    · rw [List.getElem?_append_left (by rw [List.length_take]; omega), List.getElem?_take, if_pos e1]; exact q1
    · rw [List.getElem_append_left (by rw [List.length_take]; omega), List.getElem_take]; exact q2.kept hk
  · have hl1 : (cells.take i).length = i := by rw [List.length_take]; omega
    have hl2 : (C.take i).length = i := by rw [List.length_take]; omega
    by_cases e2 : k = i
    · subst e2
      refine ⟨.slice ua x.length uk, ?_, ?_⟩
      · rw [List.getElem?_append_right (by omega), hl1, Nat.sub_self]; rfl
      · rw [List.getElem_append_right (by omega)]
        simp only [hl2, Nat.sub_self, List.getElem_cons_zero]
        exact hu.kept hk
    · obtain ⟨j, rfl⟩ : ∃ j, k = i + 1 + j := ⟨k - i - 1, by omega⟩
      obtain ⟨z, q1, q2⟩ := hc (i + j) (by omega)
      refine ⟨z, ?_, ?_⟩
      · rw [List.getElem?_append_right (by omega), hl1, show i + 1 + j - i = j + 1 by omega, List.getElem?_cons_succ, List.getElem?_drop]; exact q1
      · have e3 : (C.take i ++ x :: C.drop i)[i + 1 + j]? = some C[i + j] := by
          rw [List.getElem?_append_right (by omega), hl2, show i + 1 + j - i = j + 1 by omega, List.getElem?_cons_succ, List.getElem?_drop, List.getElem?_eq_getElem]
        rw [(List.getElem?_eq_some_iff.1 e3).2]
        exact q2.kept hk

/-! What Chain computes. -/
def badL (x : List Str) (C : List (List Str)) : Bool := C.any fun s => !decide (s = x) && !subB s x && !subB x s
def atL (x : List Str) (C : List (List Str)) : Nat := (C.filter fun s => !decide (s = x) && subB s x).length
def insC (C : List (List Str)) (x : List Str) : List (List Str) := if x ∈ C then C else C.take (atL x C) ++ x :: C.drop (atL x C)
theorem atL_le (x : List Str) (C : List (List Str)) : atL x C ≤ C.length := List.length_filter_le _ _
theorem atL_snoc (x : List Str) (C : List (List Str)) (s : List Str) : atL x (C ++ [s]) = atL x C + if (!decide (s = x) && subB s x) = true then 1 else 0 := by
  unfold atL
  rw [List.filter_append, List.length_append]
  congr 1
  by_cases h : (!decide (s = x) && subB s x) = true <;> simp [h]
theorem badL_snoc (x : List Str) (C : List (List Str)) (s : List Str) : badL x (C ++ [s]) = (badL x C || (!decide (s = x) && !subB s x && !subB x s)) := by
  unfold badL; rw [List.any_append]; simp
theorem badL_mono {x : List Str} {C : List (List Str)} {k : Nat} (h : badL x (C.take k) = true) : badL x C = true := by
  rw [← List.take_append_drop k C]
  unfold badL at *
  rw [List.any_append, h]; rfl
/-- The set of a read. -/
def setI (h : List Opn) (i : Nat) : List Str := ofL (seeO (nth h i))
def chainK (h : List Opn) : Nat → Option (List (List Str))
  | 0 => some []
  | k + 1 => match chainK h k with
    | none => none
    | some C => if RdI h k then (if badL (setI h k) C = true then none else some (insC C (setI h k))) else some C
noncomputable def chainR (h : List Opn) : Option (List (List Str)) := if (chkL h).2 = 0 then chainK h h.length else none
theorem chainK_none {h : List Opn} {k : Nat} (hk : chainK h k = none) : ∀ m, k ≤ m → chainK h m = none
  | 0, hm => by have : k = 0 := by omega
                subst this; exact hk
  | m + 1, hm => by
    by_cases e : k = m + 1
    · subst e; exact hk
    · have := chainK_none hk m (by omega)
      unfold chainK; rw [this]
theorem chainK_skip {h : List Opn} {k : Nat} {C : List (List Str)} (hc : chainK h k = some C) (hr : ¬ RdI h k) : chainK h (k + 1) = some C := by
  unfold chainK; rw [hc]; simp only; rw [if_neg hr]
theorem chainK_bad {h : List Opn} {k : Nat} {C : List (List Str)} (hc : chainK h k = some C) (hr : RdI h k) (hb : badL (setI h k) C = true) : chainK h (k + 1) = none := by
  unfold chainK; rw [hc]; simp only; rw [if_pos hr, if_pos hb]
theorem chainK_ok {h : List Opn} {k : Nat} {C : List (List Str)} (hc : chainK h k = some C) (hr : RdI h k) (hb : badL (setI h k) C = false) : chainK h (k + 1) = some (insC C (setI h k)) := by
  unfold chainK; rw [hc]; simp only; rw [if_pos hr, if_neg (by rw [hb]; simp)]
theorem insC_len (C : List (List Str)) (x : List Str) : (insC C x).length ≤ C.length + 1 := by
  unfold insC
  split
  · omega
  · have := atL_le x C
    simp; omega
theorem chainK_len {h : List Opn} : ∀ {k : Nat} {C : List (List Str)}, chainK h k = some C → C.length ≤ k
  | 0, C, hc => by
    unfold chainK at hc
    injection hc with hc
    subst hc; exact Nat.le_refl _
  | k + 1, C, hc => by
    unfold chainK at hc
    cases hk : chainK h k with
    | none => rw [hk] at hc; cases hc
    | some D =>
      rw [hk] at hc
      have ih := chainK_len hk
      simp only at hc
      by_cases hr : RdI h k
      · rw [if_pos hr] at hc
        split at hc
        · cases hc
        · injection hc with hc
          subst hc
          have := insC_len D (setI h k)
          omega
      · rw [if_neg hr] at hc
        injection hc with hc
        subst hc
        omega
end Go.Proofs.YtjijlhjggpibjaaGreat
