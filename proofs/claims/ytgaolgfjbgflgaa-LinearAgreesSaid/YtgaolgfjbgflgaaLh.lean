/-
  Chapter 56, plain: what the memo holds, what has been entered.
-/
import Derived.Test.YtgaolgfjbgflgaaLa
namespace Go.Proofs.Ytgaolgfjbgflgaa

def Sub (m s : Nat) : Prop := ∀ i, m.testBit i = true → s.testBit i = true
theorem Sub.refl (m : Nat) : Sub m m := fun _ h => h
theorem Sub.of_add {m i s : Nat} (h : Sub (addM m i) s) : Sub m s := fun j hj => h j (by rw [addM_bit, hj]; rfl)
theorem Sub.bit {m i s : Nat} (h : Sub (addM m i) s) : s.testBit i = true := h i (by rw [addM_bit]; simp)
abbrev Memo := Nat → Option (Bool × Int)
def MemoOk (h : List Opn) (M : Memo) : Prop := ∀ s e, M s = some e → doneB h s = false ∧
  ((G h s = true ∧ e = (true, ((nextI h s : Nat) : Int)) ∧ (doneB h (addM s (nextI h s)) = true ∨ (M (addM s (nextI h s))).isSome = true) ∧ nextI h s < h.length) ∨ (G h s = false ∧ e = (false, 0)))
structure Mem (h : List Opn) (M : Memo) (E : List Nat) (n st R : Nat) : Prop where
  ok : MemoOk h M
  nd : E.Nodup
  lt : ∀ s ∈ E, s < 2 ^ h.length
  inE : ∀ s, (M s).isSome = true → s ∈ E
  ns : n ≤ st
  bd : st + R ≤ h.length * E.length
structure Grown (M M' : Memo) (E E' : List Nat) (m : Nat) : Prop where
  keep : ∀ s, (M s).isSome = true → M' s = M s
  new : ∀ s, (M' s).isSome = true → (M s).isSome = true ∨ Sub m s
  eIn : ∀ s ∈ E, s ∈ E'
  eNew : ∀ s ∈ E', s ∈ E ∨ Sub m s
  eMem : ∀ s ∈ E', s ∉ E → (M' s).isSome = true
theorem Grown.refl (M : Memo) (E : List Nat) (m : Nat) : Grown M M E E m := ⟨fun _ _ => rfl, fun _ h => .inl h, fun _ h => h, fun _ h => .inl h, fun _ h hn => absurd h hn⟩
theorem Grown.trans {M M' M'' : Memo} {E E' E'' : List Nat} {m i : Nat} (h : Grown M M' E E' m) (k : Grown M' M'' E' E'' (addM m i)) : Grown M M'' E E'' m where
  keep := fun s hs => by rw [k.keep s (by rw [h.keep s hs]; exact hs), h.keep s hs]
  new := fun s hs => (k.new s hs).elim (h.new s) fun q => .inr q.of_add
  eIn := fun s hs => k.eIn s (h.eIn s hs)
  eNew := fun s hs => (k.eNew s hs).elim (h.eNew s) fun q => .inr q.of_add
  eMem := fun s hs hn => by
    by_cases h1 : s ∈ E'
    · have h2 := h.eMem s h1 hn
      rw [k.keep s h2]; exact h2
    · exact k.eMem s hs h1
theorem nodup_leN : ∀ {b : List Nat}, b.Nodup → ∀ {L : List Nat}, (∀ x ∈ b, x ∈ L) → b.length ≤ L.length
  | [], _, _, _ => Nat.zero_le _
  | x :: b, hn, L, hs => by
    rw [List.nodup_cons] at hn
    have h1 : ∀ y ∈ b, y ∈ L.erase x := fun y hy => (List.mem_erase_of_ne (by rintro rfl; exact hn.1 hy)).2 (hs y (List.mem_cons_of_mem _ hy))
    have h2 := nodup_leN hn.2 h1
    have h3 := List.length_erase_of_mem (hs x (List.mem_cons_self ..))
    have h4 : 0 < L.length := List.length_pos_of_mem (hs x (List.mem_cons_self ..))
    rw [List.length_cons]; omega
theorem nodup_len {E : List Nat} {n : Nat} (hn : E.Nodup) (hl : ∀ s ∈ E, s < n) : E.length ≤ n := by
  have := nodup_leN hn (L := List.range n) (fun x hx => List.mem_range.2 (hl x hx))
  simpa using this
section
variable {h : List Opn} {M : Memo} {E : List Nat} {n st R : Nat}
theorem Mem.len (hm : Mem h M E n st R) : E.length ≤ 2 ^ h.length := nodup_len hm.nd hm.lt
theorem Mem.steps (hm : Mem h M E n st R) : st ≤ h.length * 2 ^ h.length := Nat.le_trans (Nat.le_trans (Nat.le_add_right _ _) hm.bd) (Nat.mul_le_mul_left _ hm.len)
theorem Mem.small (hm : Mem h M E n st R) (hn : h.length ≤ 16) : st ≤ 1048576 ∧ n ≤ 1048576 := by
  have h1 := hm.steps
  have h2 : 2 ^ h.length ≤ 2 ^ 16 := Nat.pow_le_pow_right (by omega) hn
  have h3 : h.length * 2 ^ h.length ≤ 16 * 2 ^ 16 := Nat.mul_le_mul hn h2
  have := hm.ns
  omega
/-- A set is entered. -/
theorem Mem.enter {m : Nat} (hm : Mem h M E n st R) (hl : m < 2 ^ h.length) (hp : ∀ s ∈ E, Sub m s → (M s).isSome = true) (hn : M m = none) : Mem h M (m :: E) n st (R + h.length) ∧ m ∉ E := by
  have hne : m ∉ E := fun hx => by have := hp m hx (Sub.refl m); rw [hn] at this; cases this
  refine ⟨⟨hm.ok, List.nodup_cons.2 ⟨hne, hm.nd⟩, fun s hs => ?_, fun s hs => List.mem_cons_of_mem _ (hm.inE s hs), hm.ns, ?_⟩, hne⟩
  · rcases List.mem_cons.1 hs with rfl | hs
    · exact hl
    · exact hm.lt s hs
  · have := hm.bd
    rw [List.length_cons, Nat.mul_add, Nat.mul_one]; omega
/-- A step of its loop. -/
theorem Mem.step {j : Nat} (hm : Mem h M E n st (R + (h.length - j))) (hj : j < h.length) : Mem h M E n (st + 1) (R + (h.length - (j + 1))) :=
  ⟨hm.ok, hm.nd, hm.lt, hm.inE, by have := hm.ns; omega, by have := hm.bd; omega⟩
theorem Mem.less {R' : Nat} (hm : Mem h M E n st R) (hr : R' ≤ R) : Mem h M E n st R' := ⟨hm.ok, hm.nd, hm.lt, hm.inE, hm.ns, by have := hm.bd; omega⟩
def updN (M : Memo) (s : Nat) (a : Bool × Int) : Memo := fun x => if x = s then some a else M x
/-- What the set was found to be is written down. -/
theorem MemoOk.put {m : Nat} {e : Bool × Int} (hm : MemoOk h M) (hn : M m = none) (hd : doneB h m = false)
    (he : (G h m = true ∧ e = (true, ((nextI h m : Nat) : Int)) ∧ (doneB h (addM m (nextI h m)) = true ∨ (M (addM m (nextI h m))).isSome = true) ∧ nextI h m < h.length) ∨ (G h m = false ∧ e = (false, 0))) : MemoOk h (updN M m e) := by
  intro s e' hs
  unfold updN at hs
  by_cases hq : s = m
  · subst hq
    rw [if_pos rfl] at hs
    injection hs with hs
    subst hs
    refine ⟨hd, ?_⟩
    rcases he with ⟨h1, h2, h3, h4⟩ | h1
    · refine .inl ⟨h1, h2, ?_, h4⟩
      rcases h3 with h3 | h3
      · exact .inl h3
      · refine .inr ?_
        unfold updN
        split
        · rfl
        · exact h3
    · exact .inr h1
  · rw [if_neg hq] at hs
    obtain ⟨h0, h1⟩ := hm s e' hs
    refine ⟨h0, ?_⟩
    rcases h1 with ⟨a, b, c, d⟩ | h1
    · refine .inl ⟨a, b, ?_, d⟩
      rcases c with c | c
      · exact .inl c
      · refine .inr ?_
        unfold updN
        split
        · rfl
        · exact c
    · exact .inr h1
theorem Mem.put {m : Nat} {e : Bool × Int} (hm : Mem h M E n st R) (hE : m ∈ E) (hok : MemoOk h (updN M m e)) (hns : n + 1 ≤ st) : Mem h (updN M m e) E (n + 1) st R := by
  refine ⟨hok, hm.nd, hm.lt, fun s hs => ?_, hns, hm.bd⟩
  unfold updN at hs
  by_cases hq : s = m
  · rw [hq]; exact hE
  · rw [if_neg hq] at hs; exact hm.inE s hs
theorem Grown.put {M' : Memo} {E' : List Nat} {m : Nat} {e : Bool × Int} (hg : Grown M M' (m :: E) E' m) (hn : M m = none) : Grown M (updN M' m e) E E' m where
  keep := fun s hs => by
    have hne : ¬ s = m := by rintro rfl; rw [hn] at hs; cases hs
    unfold updN; rw [if_neg hne]; exact hg.keep s hs
  new := fun s hs => by
    unfold updN at hs
    by_cases hq : s = m
    · subst hq; exact .inr (Sub.refl _)
    · rw [if_neg hq] at hs; exact hg.new s hs
  eIn := fun s hs => hg.eIn s (List.mem_cons_of_mem _ hs)
  eNew := fun s hs => (hg.eNew s hs).elim (fun q => by
    rcases List.mem_cons.1 q with rfl | q
    · exact .inr (Sub.refl _)
    · exact .inl q) .inr
  eMem := fun s hs hq => by
    unfold updN
    by_cases he : s = m
    · rw [if_pos he]; rfl
    · rw [if_neg he]
      exact hg.eMem s hs (fun q => (List.mem_cons.1 q).elim he hq)
end
end Go.Proofs.Ytgaolgfjbgflgaa
