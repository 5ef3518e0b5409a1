/-
  Chapter 55, plain: the chain of a history without a reason against it, the levels along it, and the order by them.
-/
import Derived.Test.YtjijlhjggpibjaaGreatGc
import Derived.Test.YtjijlhjggpibjaaGreatKb
import Derived.Shelf.SlSortCmp.Insertion
namespace Go.Proofs.YtjijlhjggpibjaaGreat
open Go.Sort

theorem sub_iff {a b : List Str} : subB a b = true ↔ ∀ s ∈ a, s ∈ b := by unfold subB; exact decide_eq_true_iff
section
variable {h : List Opn}
theorem set_see (hw : Well h) {r : Nat} (hr : r < h.length) : setI h r = seeO (nth h r) := ofL_self (of_decide_eq_true (form_of (hw.1 _ (nth_mem hr))).2.2.2.2.1)
theorem srt_nodup {a : List Str} (h1 : a.Pairwise (· < ·)) : a.Nodup := h1.imp fun {a b} h2 (e : a = b) => slt_irrefl b (by rw [e] at h2; exact h2)
/-- A proper subset is shorter. -/
theorem sub_short {a b : List Str} (h1 : a.Pairwise (· < ·)) (h2 : b.Pairwise (· < ·)) (hs : ∀ s ∈ a, s ∈ b) (hne : ¬ a = b) : a.length < b.length := by
  refine Classical.byContradiction fun hn => hne ?_
  have h3 := nodup_full (srt_nodup h1) hs (by omega)
  exact sorted_unique a b h1 h2 fun s => ⟨hs s, h3 s⟩
theorem take_filter {α : Type} {R : α → α → Prop} {p : α → Bool} : ∀ {l : List α}, l.Pairwise R → (∀ a ∈ l, ∀ b ∈ l, R a b → p b = true → p a = true) →
    (∀ x ∈ l.take (l.filter p).length, p x = true) ∧ (∀ x ∈ l.drop (l.filter p).length, p x = false)
  | [], _, _ => ⟨by simp, by simp⟩
  | a :: l, hp, hc => by
    rw [List.pairwise_cons] at hp
    cases ha : p a with
    | true =>
      have ih := take_filter hp.2 fun x hx y hy => hc x (List.mem_cons_of_mem _ hx) y (List.mem_cons_of_mem _ hy)
      rw [List.filter_cons_of_pos ha, List.length_cons, List.take_succ_cons, List.drop_succ_cons]
      refine ⟨fun x hx => ?_, ih.2⟩
      rcases List.mem_cons.1 hx with rfl | h1
      · exact ha
      · exact ih.1 x h1
    | false =>
      have hall : ∀ b ∈ l, p b = false := fun b hb => Bool.eq_false_iff.2 fun h1 => by
        have := hc a (List.mem_cons_self ..) b (List.mem_cons_of_mem _ hb) (hp.1 b hb) h1
        rw [ha] at this; cases this
      have h0 : (a :: l).filter p = [] := by
        rw [List.filter_eq_nil_iff]
        intro x hx
        rcases List.mem_cons.1 hx with rfl | h1
        · rw [ha]; decide
        · rw [hall x h1]; decide
      rw [h0]
      refine ⟨by simp, fun x hx => ?_⟩
      rcases List.mem_cons.1 hx with rfl | h1
      · exact ha
      · exact hall x h1
/-- The sets of the reads before k, each once, ascending. -/
structure ChainD (h : List Opn) (k : Nat) (C : List (List Str)) : Prop where
  inc : C.Pairwise fun a b => (∀ s ∈ a, s ∈ b) ∧ a.length < b.length
  mem : ∀ X, X ∈ C ↔ ∃ r, r < k ∧ RdI h r ∧ X = setI h r
theorem chain_step (hw : Well h) (hn : ∀ r q, r < h.length → q < h.length → RdI h r → RdI h q → WithI h r q ∨ WithI h q r) {k : Nat} (hk : k < h.length) (hr : RdI h k) {C : List (List Str)} (hc : ChainD h k C) : badL (setI h k) C = false ∧ ChainD h (k + 1) (insC C (setI h k)) := by
  have hcmp : ∀ S ∈ C, (∀ s ∈ S, s ∈ setI h k) ∨ (∀ s ∈ setI h k, s ∈ S) := fun S hS => by
    obtain ⟨r, h1, h2, rfl⟩ := (hc.mem S).1 hS
    rw [set_see hw (by omega), set_see hw hk]
    exact hn r k (by omega) hk h2 hr
  have hsrt : ∀ S ∈ C, S.Pairwise (· < ·) := fun S hS => by
    obtain ⟨r, h1, h2, rfl⟩ := (hc.mem S).1 hS
    exact ofL_sorted _
  have hX : (setI h k).Pairwise (· < ·) := ofL_sorted _
  refine ⟨?_, ?_⟩
  · unfold badL
    rw [List.any_eq_false]
    intro S hS
    rcases hcmp S hS with h1 | h1
    · rw [sub_iff.2 h1]; simp
    · rw [sub_iff.2 h1]; simp
  · unfold insC
    by_cases hm : setI h k ∈ C
    · rw [if_pos hm]
      refine ⟨hc.inc, fun X => ?_⟩
      rw [hc.mem X]
      constructor
      · rintro ⟨r, h1, h2, h3⟩; exact ⟨r, by omega, h2, h3⟩
      · rintro ⟨r, h1, h2, h3⟩
        by_cases e : r = k
        · subst e
          rw [h3]
          exact (hc.mem _).1 hm
        · exact ⟨r, by omega, h2, h3⟩
    · rw [if_neg hm]
      have hne : ∀ S ∈ C, ¬ S = setI h k := fun S hS e => hm (e ▸ hS)
      have htf := take_filter (p := fun s => !decide (s = setI h k) && subB s (setI h k)) hc.inc fun a ha b hb hab hp => by
        rw [Bool.and_eq_true] at hp
        have h1 := sub_iff.1 hp.2
        rw [decide_eq_false (hne a ha), sub_iff.2 (fun s hs => h1 s (hab.1 s hs))]; rfl
      have h1 : ∀ S ∈ C.take (atL (setI h k) C), (∀ s ∈ S, s ∈ setI h k) ∧ S.length < (setI h k).length := fun S hS => by
        have hSC := List.mem_of_mem_take hS
        have := htf.1 S hS
        rw [Bool.and_eq_true] at this
        exact ⟨sub_iff.1 this.2, sub_short (hsrt S hSC) hX (sub_iff.1 this.2) (hne S hSC)⟩
      have h2 : ∀ S ∈ C.drop (atL (setI h k) C), (∀ s ∈ setI h k, s ∈ S) ∧ (setI h k).length < S.length := fun S hS => by
        have hSC := List.mem_of_mem_drop hS
        have := htf.2 S hS
        rw [decide_eq_false (hne S hSC)] at this
        have h3 : ¬ ∀ s ∈ S, s ∈ setI h k := fun h4 => by rw [sub_iff.2 h4] at this; cases this
        have h5 := (hcmp S hSC).resolve_left h3
        exact ⟨h5, sub_short hX (hsrt S hSC) h5 fun e => hne S hSC e.symm⟩
      have hinc := hc.inc
      rw [← List.take_append_drop (atL (setI h k) C) C, List.pairwise_append] at hinc
      refine ⟨?_, fun X => ?_⟩
      · rw [List.pairwise_append, List.pairwise_cons]
        refine ⟨hinc.1, ⟨fun S hS => h2 S hS, hinc.2.1⟩, fun a ha b hb => ?_⟩
        rcases List.mem_cons.1 hb with rfl | h3
        · exact h1 a ha
        · exact hinc.2.2 a ha b h3
      · have h3 : X ∈ C.take (atL (setI h k) C) ++ setI h k :: C.drop (atL (setI h k) C) ↔ X ∈ C ∨ X = setI h k := by
          rw [List.mem_append, List.mem_cons]
          have h4 : X ∈ C ↔ X ∈ C.take (atL (setI h k) C) ∨ X ∈ C.drop (atL (setI h k) C) := by
            rw [← List.mem_append, List.take_append_drop]
          rw [h4]
          constructor
          · rintro (a | a | a)
            · exact .inl (.inl a)
            · exact .inr a
            · exact .inl (.inr a)
          · rintro ((a | a) | a)
            · exact .inl a
            · exact .inr (.inr a)
            · exact .inr (.inl a)
        rw [h3, hc.mem X]
        constructor
        · rintro (⟨r, a, b, c⟩ | a)
          · exact ⟨r, by omega, b, c⟩
          · exact ⟨k, by omega, hr, a⟩
        · rintro ⟨r, a, b, c⟩
          by_cases e : r = k
          · subst e; exact .inr c
          · exact .inl ⟨r, by omega, b, c⟩
theorem chain_is (hw : Well h) (hn : ∀ r q, r < h.length → q < h.length → RdI h r → RdI h q → WithI h r q ∨ WithI h q r) : ∀ k, k ≤ h.length → ∃ C, chainK h k = some C ∧ ChainD h k C
  | 0, _ => ⟨[], rfl, .nil, fun X => ⟨fun h1 => (by cases h1), fun ⟨r, h1, _⟩ => (by omega)⟩⟩
  | k + 1, hk => by
    obtain ⟨C, h1, h2⟩ := chain_is hw hn k (by omega)
    by_cases hr : RdI h k
    · obtain ⟨h3, h4⟩ := chain_step hw hn (by omega) hr h2
      exact ⟨_, chainK_ok h1 hr h3, h4⟩
    · refine ⟨C, chainK_skip h1 hr, h2.inc, fun X => ?_⟩
      rw [h2.mem X]
      constructor
      · rintro ⟨r, a, b, c⟩; exact ⟨r, by omega, b, c⟩
      · rintro ⟨r, a, b, c⟩
        have : ¬ r = k := by rintro rfl; exact hr b
        exact ⟨r, by omega, b, c⟩
theorem chainR_is (hw : Well h) (hn : NoReason h) : ∃ C, chainR h = some C ∧ ChainD h h.length C := by
  obtain ⟨C, h1, h2⟩ := chain_is hw hn.chain h.length (Nat.le_refl _)
  exact ⟨C, by unfold chainR; rw [if_pos (chk_well.2 hw)]; exact h1, h2⟩
end

/-! Levels. -/
def lastK (n : Nat) (C : List (List Str)) : Nat → Option Nat
  | 0 => none
  | j + 1 => if (C.getD j []).length = n then some j else lastK n C j
def ixL (C : List (List Str)) (n : Nat) : Nat := (lastK n C C.length).getD 0
def lvC (h : List Opn) (C : List (List Str)) (i : Nat) : Nat := if kindO (nth h i) = 1 then minL ((showers h i).map fun r => ixL C (seeO (nth h r)).length) C.length else ixL C (seeO (nth h i)).length
theorem getD_at {C : List (List Str)} {j : Nat} (hj : j < C.length) : C.getD j [] = C[j] := by rw [List.getD_eq_getElem?_getD, List.getElem?_eq_getElem hj]; rfl
section
variable {h : List Opn} {C : List (List Str)}
theorem lastK_at (hi : C.Pairwise fun a b => (∀ s ∈ a, s ∈ b) ∧ a.length < b.length) {j : Nat} (hj : j < C.length) : ∀ m, j < m → m ≤ C.length → lastK C[j].length C m = some j
  | 0, h1, _ => by omega
  | m + 1, h1, h2 => by
    unfold lastK
    rw [getD_at (by omega)]
    by_cases e : m = j
    · subst e; rw [if_pos rfl]
    · have h3 := (List.pairwise_iff_getElem.1 hi j m hj (by omega) (by omega)).2
      rw [if_neg (by omega)]
      exact lastK_at hi hj m (by omega) (by omega)
theorem ix_at (hi : C.Pairwise fun a b => (∀ s ∈ a, s ∈ b) ∧ a.length < b.length) {j : Nat} (hj : j < C.length) : ixL C C[j].length = j := by
  unfold ixL; rw [lastK_at hi hj _ hj (Nat.le_refl _)]; rfl
theorem read_ix (hw : Well h) (hc : ChainD h h.length C) {r : Nat} (hr : r < h.length) (rr : RdI h r) : ∃ hj : ixL C (seeO (nth h r)).length < C.length, C[ixL C (seeO (nth h r)).length] = seeO (nth h r) := by
  have h1 : seeO (nth h r) ∈ C := (hc.mem _).2 ⟨r, hr, rr, (set_see hw hr).symm⟩
  obtain ⟨j, hj, he⟩ := List.getElem_of_mem h1
  have h2 := ix_at hc.inc hj
  rw [he] at h2
  have : ixL C (seeO (nth h r)).length = j := h2
  exact ⟨by omega, by simp only [this]; exact he⟩
theorem ix_mono (hw : Well h) (hc : ChainD h h.length C) {r q : Nat} (hr : r < h.length) (hq : q < h.length) (rr : RdI h r) (rq : RdI h q) : ixL C (seeO (nth h r)).length < ixL C (seeO (nth h q)).length ↔ (seeO (nth h r)).length < (seeO (nth h q)).length := by
  obtain ⟨h1, h2⟩ := read_ix hw hc hr rr
  obtain ⟨h3, h4⟩ := read_ix hw hc hq rq
  constructor
  · intro h5
    have := (List.pairwise_iff_getElem.1 hc.inc _ _ h1 h3 h5).2
    rwa [h2, h4] at this
  · intro h5
    refine Classical.byContradiction fun h6 => ?_
    rcases Nat.lt_or_eq_of_le (Nat.le_of_not_lt h6) with h7 | h7
    · have := (List.pairwise_iff_getElem.1 hc.inc _ _ h3 h1 h7).2
      rw [h2, h4] at this
      omega
    · have : seeO (nth h q) = seeO (nth h r) := by rw [← h2, ← h4]; congr 1
      rw [this] at h5; omega
theorem inc_kind {i : Nat} (hi : incI h i = true) : UpI h i ∨ RdI h i := by
  unfold incI at hi
  rw [Bool.or_eq_true, Bool.and_eq_true, decide_eq_true_iff, decide_eq_true_iff] at hi
  rcases hi with h1 | h1
  · exact .inr h1
  · exact .inl h1.1
/-- Each level is that of a read, or the last one. -/
theorem lev_both (hw : Well h) (hc : ChainD h h.length C) {i : Nat} (hi : i < h.length) (hk : UpI h i ∨ RdI h i) :
    (∃ q, q < h.length ∧ RdI h q ∧ levI h i = (seeO (nth h q)).length ∧ lvC h C i = ixL C (seeO (nth h q)).length) ∨ (levI h i = bigL h ∧ lvC h C i = C.length) := by
  by_cases hu : kindO (nth h i) = 1
  · unfold levI lvC
    rw [if_pos hu, if_pos hu]
    rcases minL_mem (b := bigL h) ((showers h i).map fun r => (seeO (nth h r)).length) with h1 | h1
    · right
      refine ⟨h1, ?_⟩
      rcases minL_mem (b := C.length) ((showers h i).map fun r => ixL C (seeO (nth h r)).length) with h2 | h2
      · exact h2
      · obtain ⟨q, hq, _⟩ := List.mem_map.1 h2
        have h3 := minL_le (b := bigL h) (List.mem_map.2 ⟨q, hq, rfl⟩ : (seeO (nth h q)).length ∈ (showers h i).map fun r => (seeO (nth h r)).length)
        have h4 := see_big (mem_showers.1 hq).1
        omega
    · left
      obtain ⟨q, hq, he⟩ := List.mem_map.1 h1
      obtain ⟨q1, q2, q3⟩ := mem_showers.1 hq
      refine ⟨q, q1, q2, he.symm, ?_⟩
      have h3 := minL_le (b := C.length) (List.mem_map.2 ⟨q, hq, rfl⟩ : ixL C (seeO (nth h q)).length ∈ (showers h i).map fun r => ixL C (seeO (nth h r)).length)
      obtain ⟨h4, _⟩ := read_ix hw hc q1 q2
      rcases minL_mem (b := C.length) ((showers h i).map fun r => ixL C (seeO (nth h r)).length) with h2 | h2
      · omega
      · obtain ⟨p, hp, he2⟩ := List.mem_map.1 h2
        obtain ⟨p1, p2, p3⟩ := mem_showers.1 hp
        have h5 := minL_le (b := bigL h) (List.mem_map.2 ⟨p, hp, rfl⟩ : (seeO (nth h p)).length ∈ (showers h i).map fun r => (seeO (nth h r)).length)
        rw [← he] at h5
        have h6 := ix_mono hw hc p1 q1 p2 q2
        omega
  · have rr : RdI h i := hk.resolve_left hu
    left
    refine ⟨i, hi, rr, lev_read rr, ?_⟩
    unfold lvC
    rw [if_neg hu]
theorem lev_lt (hw : Well h) (hc : ChainD h h.length C) {i k : Nat} (hi : i < h.length) (hk : k < h.length) (ii : UpI h i ∨ RdI h i) (kk : UpI h k ∨ RdI h k) : lvC h C i < lvC h C k ↔ levI h i < levI h k := by
  rcases lev_both hw hc hi ii with ⟨q, q1, q2, q3, q4⟩ | ⟨q3, q4⟩
  · rcases lev_both hw hc hk kk with ⟨p, p1, p2, p3, p4⟩ | ⟨p3, p4⟩
    · rw [q3, q4, p3, p4]; exact ix_mono hw hc q1 p1 q2 p2
    · rw [q3, q4, p3, p4]
      have h1 := see_big q1
      obtain ⟨h2, _⟩ := read_ix hw hc q1 q2
      exact ⟨fun _ => h1, fun _ => h2⟩
  · rcases lev_both hw hc hk kk with ⟨p, p1, p2, p3, p4⟩ | ⟨p3, p4⟩
    · rw [q3, q4, p3, p4]
      have h1 := see_big p1
      obtain ⟨h2, _⟩ := read_ix hw hc p1 p2
      constructor <;> intro <;> omega
    · rw [q3, q4, p3, p4]
      constructor <;> intro <;> omega

/-! The order by levels. -/
def kdI (h : List Opn) (i : Nat) : Int := if kindO (nth h i) = 1 then 0 else 1
def or4 (a b c d : Int) : Int := if a = 0 then (if b = 0 then (if c = 0 then d else c) else b) else a
def cfG (lv : Nat → Int) (h : List Opn) (i k : Nat) : Int := or4 (Lib.compareInt (lv i) (lv k)) (Lib.compareInt (kdI h i) (kdI h k)) (Lib.compareInt (begO (nth h i)) (begO (nth h k))) (Lib.compareInt (i : Int) (k : Int))
def keyG (lv : Nat → Int) (h : List Opn) (i k : Nat) : Prop := lv i < lv k ∨ (lv i = lv k ∧ (kdI h i < kdI h k ∨ (kdI h i = kdI h k ∧ (begO (nth h i) < begO (nth h k) ∨ (begO (nth h i) = begO (nth h k) ∧ i < k)))))
instance (lv : Nat → Int) (h : List Opn) (i k : Nat) : Decidable (keyG lv h i k) := inferInstanceAs (Decidable (_ ∨ _))
theorem cmp_cases (a b : Int) : (a < b ∧ Lib.compareInt a b = -1) ∨ (a = b ∧ Lib.compareInt a b = 0) ∨ (b < a ∧ Lib.compareInt a b = 1) := by
  unfold Lib.compareInt
  by_cases h1 : a < b
  · left; exact ⟨h1, if_pos h1⟩
  · by_cases h2 : a = b
    · right; left; refine ⟨h2, ?_⟩; rw [if_neg h1]; simp [h2]
    · right; right; refine ⟨by omega, ?_⟩; rw [if_neg h1]; simp [show b < a by omega]
theorem cf_lt (lv : Nat → Int) (i k : Nat) : cfG lv h i k < 0 ↔ keyG lv h i k := by
  unfold cfG keyG or4
  rcases cmp_cases (lv i) (lv k) with ⟨a1, a2⟩ | ⟨a1, a2⟩ | ⟨a1, a2⟩ <;> rw [a2]
  · simp; omega
  · rcases cmp_cases (kdI h i) (kdI h k) with ⟨b1, b2⟩ | ⟨b1, b2⟩ | ⟨b1, b2⟩ <;> rw [b2]
    · simp; omega
    · rcases cmp_cases (begO (nth h i)) (begO (nth h k)) with ⟨c1, c2⟩ | ⟨c1, c2⟩ | ⟨c1, c2⟩ <;> rw [c2]
      · simp; omega
      · rcases cmp_cases (i : Int) (k : Int) with ⟨d1, d2⟩ | ⟨d1, d2⟩ | ⟨d1, d2⟩ <;> rw [d2]
        · simp; omega
        · simp; omega
        · simp; omega
      · simp; omega
    · simp; omega
  · simp; omega
theorem lt_key (lv : Nat → Int) (i k : Nat) : ltOf (cfG lv h) i k = decide (keyG lv h i k) := by
  unfold ltOf
  exact decide_eq_decide.2 (cf_lt lv i k)
theorem keyG_tri (lv : Nat → Int) (i k : Nat) : keyG lv h i k ∨ i = k ∨ keyG lv h k i := by unfold keyG; omega
theorem keyG_asymm {lv : Nat → Int} {i k : Nat} (h1 : keyG lv h i k) : ¬ keyG lv h k i := by unfold keyG at *; omega
theorem keyG_trans {lv : Nat → Int} {i j k : Nat} (h1 : keyG lv h i j) (h2 : keyG lv h j k) : keyG lv h i k := by unfold keyG at *; omega
theorem keyG_congr {lv lv' : Nat → Int} {i k : Nat} (hi : lv i = lv' i) (hk : lv k = lv' k) : keyG lv h i k ↔ keyG lv' h i k := by unfold keyG; rw [hi, hk]
def lvZ (h : List Opn) (C : List (List Str)) (i : Nat) : Int := (lvC h C i : Int)
theorem keyG_iff (hw : Well h) (hc : ChainD h h.length C) {i k : Nat} (hi : i < h.length) (hk : k < h.length) (ii : UpI h i ∨ RdI h i) (kk : UpI h k ∨ RdI h k) : keyG (lvZ h C) h i k ↔ keyLt h i k := by
  have h1 := lev_lt hw hc hi hk ii kk
  have h2 := lev_lt hw hc hk hi kk ii
  have h3 : kdI h i < kdI h k ↔ kindO (nth h i) < kindO (nth h k) := by
    unfold kdI
    have e1 : UpI h i ↔ kindO (nth h i) = 1 := Iff.rfl
    have e2 : UpI h k ↔ kindO (nth h k) = 1 := Iff.rfl
    rcases ii with a | a <;> rcases kk with b | b
    · rw [if_pos (e1.1 a), if_pos (e2.1 b)]; have := e1.1 a; have := e2.1 b; omega
    · rw [if_pos (e1.1 a), if_neg (by rw [b.1]; decide)]; have := e1.1 a; have := b.1; omega
    · rw [if_neg (by rw [a.1]; decide), if_pos (e2.1 b)]; have := a.1; have := e2.1 b; omega
    · rw [if_neg (by rw [a.1]; decide), if_neg (by rw [b.1]; decide)]; have := a.1; have := b.1; omega
  have h4 : kdI h i = kdI h k ↔ kindO (nth h i) = kindO (nth h k) := by
    unfold kdI
    have e1 : UpI h i ↔ kindO (nth h i) = 1 := Iff.rfl
    have e2 : UpI h k ↔ kindO (nth h k) = 1 := Iff.rfl
    rcases ii with a | a <;> rcases kk with b | b
    · rw [if_pos (e1.1 a), if_pos (e2.1 b)]; have := e1.1 a; have := e2.1 b; omega
    · rw [if_pos (e1.1 a), if_neg (by rw [b.1]; decide)]; have := e1.1 a; have := b.1; omega
    · rw [if_neg (by rw [a.1]; decide), if_pos (e2.1 b)]; have := a.1; have := e2.1 b; omega
    · rw [if_neg (by rw [a.1]; decide), if_neg (by rw [b.1]; decide)]; have := a.1; have := b.1; omega
  have h5 : lvZ h C i < lvZ h C k ↔ levI h i < levI h k := by unfold lvZ; omega
  have h6 : lvZ h C i = lvZ h C k ↔ levI h i = levI h k := by unfold lvZ; omega
  unfold keyG keyLt
  rw [h5, h6, h3, h4]
/-- Which indices the program sorts. -/
def outL (h : List Opn) : List Nat := (List.range h.length).filter (fun i => decide (RdI h i)) ++ ((List.range h.length).filter fun i => decide (UpI h i)).filter (incI h)
theorem outL_mem {i : Nat} : i ∈ outL h ↔ i < h.length ∧ incI h i = true := by
  unfold outL
  rw [List.mem_append, List.mem_filter, List.mem_filter, List.mem_filter, List.mem_range, decide_eq_true_iff, decide_eq_true_iff]
  constructor
  · rintro (⟨a, b⟩ | ⟨⟨a, b⟩, c⟩)
    · refine ⟨a, ?_⟩
      unfold incI
      rw [decide_eq_true b]; rfl
    · exact ⟨a, c⟩
  · rintro ⟨a, b⟩
    rcases inc_kind b with c | c
    · exact .inr ⟨⟨a, c⟩, b⟩
    · exact .inl ⟨a, c⟩
theorem outL_nodup : (outL h).Nodup := by
  unfold outL
  rw [List.nodup_append]
  refine ⟨List.Pairwise.filter _ List.nodup_range, List.Pairwise.filter _ (List.Pairwise.filter _ List.nodup_range), fun a ha b hb e => ?_⟩
  subst e
  have h1 := of_decide_eq_true (List.mem_filter.1 ha).2
  have h2 : kindO (nth h a) = 1 := of_decide_eq_true (List.mem_filter.1 (List.mem_filter.1 hb).1).2
  rw [h1.1] at h2; exact absurd h2 (by decide)
end
theorem sorted_eq {R : Nat → Nat → Prop} (ha : ∀ a b, R a b → ¬ R b a) : ∀ {l m : List Nat}, l.Pairwise R → m.Pairwise R → (∀ x, x ∈ l ↔ x ∈ m) → l = m
  | [], [], _, _, _ => rfl
  | [], b :: m, _, _, h => absurd ((h b).2 (List.mem_cons_self ..)) (by simp)
  | a :: l, [], _, _, h => absurd ((h a).1 (List.mem_cons_self ..)) (by simp)
  | a :: l, b :: m, h1, h2, h => by
    rw [List.pairwise_cons] at h1 h2
    have hirr : ∀ x, ¬ R x x := fun x hx => ha x x hx hx
    have e : a = b := by
      rcases List.mem_cons.1 ((h a).1 (List.mem_cons_self ..)) with e | h3
      · exact e
      · rcases List.mem_cons.1 ((h b).2 (List.mem_cons_self ..)) with e | h4
        · exact e.symm
        · exact absurd (h1.1 b h4) (ha _ _ (h2.1 a h3))
    subst e
    congr 1
    refine sorted_eq ha h1.2 h2.2 fun x => ?_
    have h3 := h x
    rw [List.mem_cons, List.mem_cons] at h3
    constructor
    · intro hx
      rcases h3.1 (.inr hx) with e | h4
      · subst e; exact absurd (h1.1 x hx) (hirr x)
      · exact h4
    · intro hx
      rcases h3.2 (.inr hx) with e | h4
      · subst e; exact absurd (h2.1 x hx) (hirr x)
      · exact h4
/-- Sorted by the levels: the order of the plain law. -/
theorem sort_ord {h : List Opn} {C : List (List Str)} (hw : Well h) (hc : ChainD h h.length C) {l : List Nat} (hp : l.Perm (outL h)) (hs : l.Pairwise fun a b => ¬ keyG (lvZ h C) h b a) : l = ordI h := by
  have hnd : l.Nodup := hp.nodup_iff.2 outL_nodup
  have hmem : ∀ {x}, x ∈ l → x < h.length ∧ incI h x = true := fun {x} hx => outL_mem.1 (hp.mem_iff.1 hx)
  refine sorted_eq (R := keyLt h) (fun a b h1 => keyLt_asymm h1) ?_ (ordI_sorted h) fun x => by rw [hp.mem_iff, outL_mem, mem_ordI]
  refine List.Pairwise.imp_of_mem ?_ (hs.and hnd)
  intro a b ha hb hab
  obtain ⟨a1, a2⟩ := hmem ha
  obtain ⟨b1, b2⟩ := hmem hb
  rcases keyG_tri (h := h) (lvZ h C) a b with h1 | h1 | h1
  · exact (keyG_iff hw hc a1 b1 (inc_kind a2) (inc_kind b2)).1 h1
  · exact absurd h1 hab.2
  · exact absurd h1 hab.1
end Go.Proofs.YtjijlhjggpibjaaGreat
