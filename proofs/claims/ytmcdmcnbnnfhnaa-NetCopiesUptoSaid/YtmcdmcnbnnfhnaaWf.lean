/-
  Chapter 28: what holds of a network's state after some calls (plain).
-/
import Derived.Test.YtmcdmcnbnnfhnaaWb
import Derived.Test.YtmcdmcnbnnfhnaaWc
namespace Go.Proofs.Ytmcdmcnbnnfhnaa
open Go.RowKit

def dropR (s : NetS) (x : Int) : Int × NetS :=
  match s.ms x with
  | none => (14, s)
  | some _ => (0, { s with cnt := s.cnt - 1, ms := updM s.ms x none, gone := s.gone + 1 })
/-- After i calls. -/
structure InvS (l : Int) (s : NetS) (i : Nat) : Prop where
  lim : s.limit = l
  l0 : 0 ≤ s.last
  l1 : s.last ≤ i
  a0 : 0 ≤ s.sent
  a1 : s.sent ≤ i
  b0 : 0 ≤ s.twice
  b1 : s.twice ≤ i
  c0 : 0 ≤ s.taken
  c1 : s.taken ≤ i
  d0 : 0 ≤ s.gone
  d1 : s.gone ≤ i
  cnt : s.cnt ≤ i
  sum : s.sent + s.twice = s.taken + s.gone + s.cnt
  all : s.sent + s.twice = s.last
  key : ∀ x, (s.ms x).isSome = true → 1 ≤ x ∧ x ≤ s.last
  prc : ∀ x m, s.ms x = some m → procB m.frm = true ∧ procB m.to = true
theorem updM_self (f : Int → Option MsgM) (x : Int) (m : Option MsgM) : updM f x m x = m := if_pos rfl
theorem updM_ne (f : Int → Option MsgM) {x y : Int} (m : Option MsgM) (h : y ≠ x) : updM f x m y = f y := if_neg h
section
variable {l : Int} {s : NetS} {i : Nat}
theorem InvS.new (l : Int) : InvS l (newS l) 0 := ⟨rfl, Int.le_refl 0, Int.le_refl 0, Int.le_refl 0, Int.le_refl 0, Int.le_refl 0, Int.le_refl 0, Int.le_refl 0, Int.le_refl 0, Int.le_refl 0, Int.le_refl 0, Nat.le_refl 0, rfl, rfl, fun x h => by simp [newS] at h, fun x m h => by simp [newS] at h⟩
theorem InvS.next (h : InvS l s i) : InvS l s (i + 1) := by
  obtain ⟨h1, h2, h3, h4, h5, h6, h7, h8, h9, h10, h11, h12, h13, h14, h15, h16⟩ := h
  exact ⟨h1, h2, by omega, h4, by omega, h6, by omega, h8, by omega, h10, by omega, by omega, h13, h14, h15, h16⟩
theorem InvS.free (h : InvS l s i) : s.ms (s.last + 1) = none := by
  cases hm : s.ms (s.last + 1) with
  | none => rfl
  | some m => have := h.key (s.last + 1) (by rw [hm]; rfl); omega
theorem InvS.grp (h : InvS l s i) (g : Option (Int → Option Int)) : InvS l { s with grp := g } i := ⟨h.lim, h.l0, h.l1, h.a0, h.a1, h.b0, h.b1, h.c0, h.c1, h.d0, h.d1, h.cnt, h.sum, h.all, h.key, h.prc⟩
theorem InvS.put1 (h : InvS l s i) {m : MsgM} (hp : procB m.frm = true ∧ procB m.to = true) : InvS l (putS { s with sent := s.sent + 1 } m) (i + 1) := by
  have hk := h.key
  have hr := h.prc
  obtain ⟨h1, h2, h3, h4, h5, h6, h7, h8, h9, h10, h11, h12, h13, h14, -, -⟩ := h
  refine ⟨h1, by simp only [putS]; omega, by simp only [putS]; omega, by simp only [putS]; omega, by simp only [putS]; omega, h6, by simp only [putS]; omega, h8, by simp only [putS]; omega, h10, by simp only [putS]; omega, by simp only [putS]; omega, by simp only [putS]; omega, by simp only [putS]; omega, fun x hx => ?_, fun x m' hx => ?_⟩
  · simp only [putS] at hx ⊢
    by_cases e : x = s.last + 1
    · omega
    · rw [updM_ne _ _ e] at hx
      have := hk x hx
      omega
  · simp only [putS] at hx
    by_cases e : x = s.last + 1
    · subst e
      rw [updM_self] at hx
      injection hx with hx
      subst hx
      exact hp
    · rw [updM_ne _ _ e] at hx
      exact hr x m' hx
theorem InvS.put2 (h : InvS l s i) {m : MsgM} (hp : procB m.frm = true ∧ procB m.to = true) : InvS l (putS { s with twice := s.twice + 1 } m) (i + 1) := by
  have hk := h.key
  have hr := h.prc
  obtain ⟨h1, h2, h3, h4, h5, h6, h7, h8, h9, h10, h11, h12, h13, h14, -, -⟩ := h
  refine ⟨h1, by simp only [putS]; omega, by simp only [putS]; omega, h4, by simp only [putS]; omega, by simp only [putS]; omega, by simp only [putS]; omega, h8, by simp only [putS]; omega, h10, by simp only [putS]; omega, by simp only [putS]; omega, by simp only [putS]; omega, by simp only [putS]; omega, fun x hx => ?_, fun x m' hx => ?_⟩
  · simp only [putS] at hx ⊢
    by_cases e : x = s.last + 1
    · omega
    · rw [updM_ne _ _ e] at hx
      have := hk x hx
      omega
  · simp only [putS] at hx
    by_cases e : x = s.last + 1
    · subst e
      rw [updM_self] at hx
      injection hx with hx
      subst hx
      exact hp
    · rw [updM_ne _ _ e] at hx
      exact hr x m' hx
theorem InvS.send (h : InvS l s i) (m : MsgM) : InvS l (sendR s m).2.2 (i + 1) := by
  unfold sendR
  by_cases hp : (procB m.frm && procB m.to) = true
  · rw [if_pos hp]
    rw [Bool.and_eq_true] at hp
    by_cases hf : s.limit ≤ (s.cnt : Int)
    · rw [if_pos hf]; exact h.next
    · rw [if_neg hf]; exact h.put1 hp
  · rw [if_neg hp]; exact h.next
theorem InvS.dup (h : InvS l s i) (x : Int) : InvS l (dupR s x).2.2 (i + 1) := by
  unfold dupR
  cases hm : s.ms x with
  | none => exact h.next
  | some m =>
    simp only
    by_cases hf : s.limit ≤ (s.cnt : Int)
    · rw [if_pos hf]; exact h.next
    · rw [if_neg hf]; exact h.put2 (h.prc x m hm)
theorem upd_none {f : Int → Option MsgM} {x y : Int} {m : MsgM} (h : updM f x none y = some m) : f y = some m := by
  by_cases e : y = x
  · subst e; rw [updM_self] at h; cases h
  · rwa [updM_ne _ _ e] at h
theorem InvS.del (h : InvS l s i) (x : Int) (hc : ∀ m, s.ms x = some m → 1 ≤ s.cnt) : InvS l (delR s x).2.2 (i + 1) := by
  unfold delR
  cases hm : s.ms x with
  | none => exact h.next
  | some m =>
    simp only
    by_cases hf : connB s.grp m.frm m.to = true
    · rw [if_pos hf]
      have h0 := hc m hm
      have hk := h.key
      have hr := h.prc
      obtain ⟨h1, h2, h3, h4, h5, h6, h7, h8, h9, h10, h11, h12, h13, h14, -, -⟩ := h
      refine ⟨h1, h2, by simp only; omega, h4, by simp only; omega, h6, by simp only; omega, by simp only; omega, by simp only; omega, h10, by simp only; omega, by simp only; omega, by simp only; omega, h14, fun y hy => ?_, fun y m' hy => hr y m' (upd_none hy)⟩
      obtain ⟨m', hy'⟩ := Option.isSome_iff_exists.1 hy
      exact hk y (by rw [upd_none hy']; rfl)
    · rw [if_neg hf]; exact h.next
theorem InvS.drop (h : InvS l s i) (x : Int) (hc : ∀ m, s.ms x = some m → 1 ≤ s.cnt) : InvS l (dropR s x).2 (i + 1) := by
  unfold dropR
  cases hm : s.ms x with
  | none => exact h.next
  | some m =>
    simp only
    have h0 := hc m hm
    have hk := h.key
    have hr := h.prc
    obtain ⟨h1, h2, h3, h4, h5, h6, h7, h8, h9, h10, h11, h12, h13, h14, -, -⟩ := h
    refine ⟨h1, h2, by simp only; omega, h4, by simp only; omega, h6, by simp only; omega, h8, by simp only; omega, by simp only; omega, by simp only; omega, by simp only; omega, by simp only; omega, h14, fun y hy => ?_, fun y m' hy => hr y m' (upd_none hy)⟩
    obtain ⟨m', hy'⟩ := Option.isSome_iff_exists.1 hy
    exact hk y (by rw [upd_none hy']; rfl)
end
theorem NetAt.pos {P : Nat → Prop} {n b : Nat} {gv : Value} {s : NetS} {w : World} (h : NetAt P n b gv s w) {x : Int} (hx : I64 x) {m : MsgM} (hm : s.ms x = some m) : 1 ≤ s.cnt := by
  obtain ⟨M, ⟨D, hown, hsz, hD⟩, hM⟩ := h.way
  obtain ⟨cs, h1, _⟩ := (hM x hx).2 m hm
  have h2 := (hD x hx).1
  rw [h1] at h2
  have h3 := Maps.size_del (k := .int .i64 x) (hown.tidy kdI)
  rw [h2, Option.isSome_some, if_pos rfl] at h3
  omega
/-- In one group: what the law calls together. -/
def togB (gs : List (List GI)) (a b : Int) : Bool := a == b || gs.any fun g => (g.any fun x => x.n == a) && g.any fun x => x.n == b
theorem partRow_spec (i : Int) : ∀ (g : List GI) (f f' : Int → Option Int), partRow i g f = some f' → ∀ y j, f' y = some j → f y = some j ∨ (j = i ∧ ∃ x ∈ g, x.n = y)
  | [], f, f', h, y, j, hy => by injection h with h; subst h; exact .inl hy
  | p :: r, f, f', h, y, j, hy => by
    rw [partRow] at h
    split at h
    · cases h
    · rcases partRow_spec i r _ _ h y j hy with h1 | ⟨h1, x, h2, h3⟩
      · unfold putF at h1
        by_cases e : y = p.n
        · rw [if_pos e] at h1
          injection h1 with h1
          exact .inr ⟨h1.symm, p, by simp, e.symm⟩
        · rw [if_neg e] at h1
          exact .inl h1
      · exact .inr ⟨h1, x, List.mem_cons_of_mem _ h2, h3⟩
theorem partAll_spec : ∀ (gs : List (List GI)) (k : Nat) (f f' : Int → Option Int), partAll k gs f = some f' → ∀ y j, f' y = some j → f y = some j ∨ ∃ q, ∃ hq : q < gs.length, j = ((k + q : Nat) : Int) ∧ ∃ x ∈ gs[q], x.n = y
  | [], k, f, f', h, y, j, hy => by injection h with h; subst h; exact .inl hy
  | g :: r, k, f, f', h, y, j, hy => by
    rw [partAll] at h
    cases hp : partRow (k : Int) g f with
    | none => rw [hp] at h; cases h
    | some f1 =>
      rw [hp] at h
      rcases partAll_spec r (k + 1) f1 f' h y j hy with h1 | ⟨q, hq, h2, h3⟩
      · rcases partRow_spec (k : Int) g f f1 hp y j h1 with h4 | ⟨h4, h5⟩
        · exact .inl h4
        · exact .inr ⟨0, by simp, by simpa using h4, by simpa using h5⟩
      · exact .inr ⟨q + 1, by simpa using hq, by rw [h2]; congr 1; omega, by simpa using h3⟩
/-- Connected processes of a partition are together. -/
theorem conn_tog {gs : List (List GI)} {f : Int → Option Int} (h : partG gs = some f) {a b : Int} (hc : connB (some f) a b = true) : togB gs a b = true := by
  unfold connB at hc
  simp only [Bool.and_eq_true, Bool.or_eq_true] at hc
  unfold togB
  rcases hc.2 with h1 | h1
  · rw [h1]; rfl
  · unfold pairB at h1
    simp only [Bool.and_eq_true] at h1
    obtain ⟨⟨h2, h3⟩, h4⟩ := h1
    obtain ⟨i, hi⟩ := Option.isSome_iff_exists.1 h2
    obtain ⟨j, hj⟩ := Option.isSome_iff_exists.1 h3
    rw [hi, hj] at h4
    have hij : i = j := by simpa using h4
    subst hij
    rcases partAll_spec gs 0 _ f h a i hi with h5 | ⟨q, hq, h6, x, hx, hxa⟩
    · cases h5
    rcases partAll_spec gs 0 _ f h b i hj with h5 | ⟨q', hq', h6', y, hy, hyb⟩
    · cases h5
    have hqq : q = q' := by omega
    subst hqq
    rw [Bool.or_eq_true]
    right
    rw [List.any_eq_true]
    refine ⟨gs[q], List.getElem_mem hq, ?_⟩
    rw [Bool.and_eq_true, List.any_eq_true, List.any_eq_true]
    exact ⟨⟨x, hx, by simpa using hxa⟩, ⟨y, hy, by simpa using hyb⟩⟩
end Go.Proofs.Ytmcdmcnbnnfhnaa
