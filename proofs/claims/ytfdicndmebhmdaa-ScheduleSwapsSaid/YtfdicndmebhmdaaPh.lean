/-
  Chapter 29, plain: the search for a trace by exchanges of independent neighbours.
-/
import Derived.Test.YtfdicndmebhmdaaPf
namespace Go.Proofs.Ytfdicndmebhmdaa

theorem nodup_le {α : Type} [DecidableEq α] : ∀ {l m : List α}, l.Nodup → (∀ x, x ∈ l → x ∈ m) → l.length ≤ m.length
  | [], _, _, _ => Nat.zero_le _
  | x :: l, m, hn, hs => by
    rw [List.nodup_cons] at hn
    have hx := hs x (List.mem_cons_self ..)
    have h1 : l.length ≤ (m.erase x).length := nodup_le hn.2 fun y hy => (List.mem_erase_of_ne (by rintro rfl; exact hn.1 hy)).2 (hs y (List.mem_cons_of_mem _ hy))
    rw [List.length_erase_of_mem hx] at h1
    have := List.length_pos_of_mem hx
    rw [List.length_cons]; omega
/-- What the search knows: the traces that it met; of the first i, all neighbours are met, and none is b. -/
structure ExQ (a b : List Ev) (S : List (List Ev)) (i : Nat) : Prop where
  eq : ∀ y, y ∈ S → Prj a y
  nd : S.Nodup
  me : a ∈ S
  cl : ∀ j (h : j < S.length), j < i → ∀ k, k + 1 < S[j].length → depI S[j] k (k + 1) = false → swpE S[j] k ∈ S
  no : ∀ j (h : j < S.length), j < i → S[j] ≠ b
theorem ExQ.start (a b : List Ev) : ExQ a b [a] 0 := ⟨fun y h => by rw [List.mem_singleton.1 h]; exact Prj.refl a, List.nodup_cons.2 ⟨by simp, List.nodup_nil⟩, List.mem_singleton.2 rfl, fun j _ h => absurd h (Nat.not_lt_zero j), fun j _ h => absurd h (Nat.not_lt_zero j)⟩
theorem ExQ.len {a b : List Ev} {S : List (List Ev)} {i : Nat} (h : ExQ a b S i) : S.length ≤ (linsE a).length := nodup_le h.nd fun y hy => mem_lins.2 (h.eq y hy)
theorem ExQ.push {a b : List Ev} {S : List (List Ev)} {i : Nat} (h : ExQ a b S i) (hi : i ≤ S.length) {y : List Ev} (hy : Prj a y) (hn : y ∉ S) : ExQ a b (S ++ [y]) i where
  eq := fun z hz => by
    rcases List.mem_append.1 hz with e | e
    · exact h.eq z e
    · rw [List.mem_singleton.1 e]; exact hy
  nd := by
    rw [List.nodup_append]
    refine ⟨h.nd, List.nodup_cons.2 ⟨by simp, List.nodup_nil⟩, fun x hx z hz e => ?_⟩
    rw [List.mem_singleton.1 hz] at e
    exact hn (e ▸ hx)
  me := List.mem_append_left _ h.me
  cl := fun j hj hji k hk hd => by
    have hjs : j < S.length := by omega
    rw [List.getElem_append_left hjs] at hk hd ⊢
    exact List.mem_append_left _ (h.cl j hjs hji k hk hd)
  no := fun j hj hji => by
    have hjs : j < S.length := by omega
    rw [List.getElem_append_left hjs]
    exact h.no j hjs hji
theorem ExQ.next {a b : List Ev} {S : List (List Ev)} {i : Nat} (h : ExQ a b S i) (hi : i < S.length) (hne : S[i] ≠ b) (hc : ∀ k, k + 1 < S[i].length → depI S[i] k (k + 1) = false → swpE S[i] k ∈ S) : ExQ a b S (i + 1) where
  eq := h.eq
  nd := h.nd
  me := h.me
  cl := fun j hj hji => by
    by_cases e : j = i
    · subst e; exact hc
    · exact h.cl j hj (by omega)
  no := fun j hj hji => by
    by_cases e : j = i
    · subst e; exact hne
    · exact h.no j hj (by omega)
theorem ExQ.fin {a b : List Ev} {S : List (List Ev)} (h : ExQ a b S S.length) : ¬ Prj a b := by
  intro hp
  have key : ∀ {y : List Ev}, Eqv a y → y ∈ S := by
    intro y hy
    induction hy with
    | refl => exact h.me
    | @step c d u v _ hd ih =>
      obtain ⟨j, hj, e⟩ := List.mem_iff_getElem.1 ih
      have hl : u.length + 1 < (u ++ c :: d :: v).length := by simp
      have h0 : nthE (u ++ c :: d :: v) u.length = c := by rw [nthE_eq (by omega)]; simp
      have h1 : nthE (u ++ c :: d :: v) (u.length + 1) = d := by rw [nthE_eq hl]; simp
      have h2 := h.cl j hj hj u.length (by rw [e]; exact hl) (by rw [e]; unfold depI; rw [h0, h1]; exact hd)
      rw [e] at h2
      have h3 := (swpE_eq hl).2
      rw [h0, h1] at h3
      rw [h3] at h2
      simpa using h2
  obtain ⟨j, hj, e⟩ := List.mem_iff_getElem.1 (key (prj_eqv hp))
  exact h.no j hj hj e
theorem ExQ.hit {a b : List Ev} {S : List (List Ev)} {i : Nat} (h : ExQ a b S i) (hi : i < S.length) (e : S[i] = b) : decide (normE a = normE b) = true := decide_eq_true (prj_norm.2 (e ▸ h.eq _ (List.getElem_mem hi)))
theorem ExQ.miss {a b : List Ev} {S : List (List Ev)} (h : ExQ a b S S.length) : decide (normE a = normE b) = false := decide_eq_false fun e => h.fin (prj_norm.1 e)
/-- The neighbours of y up to k are met. -/
def NbQ (S : List (List Ev)) (y : List Ev) (k : Nat) : Prop := ∀ j, j < k → j + 1 < y.length → depI y j (j + 1) = false → swpE y j ∈ S
theorem NbQ.start (S : List (List Ev)) (y : List Ev) : NbQ S y 0 := fun j h => absurd h (Nat.not_lt_zero j)
theorem NbQ.on {S : List (List Ev)} {y : List Ev} {k : Nat} (h : NbQ S y k) (z : List Ev) : NbQ (S ++ [z]) y k := fun j h1 h2 h3 => List.mem_append_left _ (h j h1 h2 h3)
theorem NbQ.dep {S : List (List Ev)} {y : List Ev} {k : Nat} (h : NbQ S y k) (hd : depI y k (k + 1) = true) : NbQ S y (k + 1) := fun j h1 h2 h3 => by
  by_cases e : j = k
  · subst e; rw [hd] at h3; cases h3
  · exact h j (by omega) h2 h3
theorem NbQ.met {S : List (List Ev)} {y : List Ev} {k : Nat} (h : NbQ S y k) (hm : swpE y k ∈ S) : NbQ S y (k + 1) := fun j h1 h2 h3 => by
  by_cases e : j = k
  · subst e; exact hm
  · exact h j (by omega) h2 h3
end Go.Proofs.Ytfdicndmebhmdaa
