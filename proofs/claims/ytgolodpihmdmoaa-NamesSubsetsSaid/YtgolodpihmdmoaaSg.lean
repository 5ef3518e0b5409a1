/-
  Chapter 02: the sets of a list's places, and what sorting them gives.
-/
import Derived.Test.YtgolodpihmdmoaaSf
import Derived.Test.YtgolodpihmdmoaaNi
namespace Go.Proofs.Ytgolodpihmdmoaa.namesSubsets
open Go.RowKit Go.Sort Go.Shelf

theorem cmpN_anti (a b : Nat) : cmpN b a = 0 - cmpN a b := by unfold cmpN; split <;> split <;> omega
theorem lex_anti : ∀ (xs ys : List Str), lexL ys xs = 0 - lexL xs ys
  | [], [] => rfl
  | [], _ :: _ => rfl
  | _ :: _, [] => rfl
  | x :: xs, y :: ys => by
    rw [lexL, lexL, lex_anti xs ys]
    by_cases h1 : x < y
    · rw [if_neg (slt_asymm h1), if_pos h1, if_pos h1]; rfl
    · by_cases h2 : y < x
      · rw [if_pos h2, if_neg h1, if_pos h2]; rfl
      · rw [if_neg h2, if_neg h1, if_neg h1, if_neg h2]
theorem cmp_anti (xs ys : List Str) : cmpL ys xs = 0 - cmpL xs ys := by
  unfold cmpL
  rw [cmpN_anti xs.length ys.length, lex_anti xs ys]
  by_cases h : cmpN xs.length ys.length = 0
  · rw [if_neg (by rw [h]; simp), if_neg (by simp [h])]
  · rw [if_pos (by omega), if_pos h]
theorem lex_zero : ∀ (xs ys : List Str), lexL xs ys = 0 ↔ xs = ys
  | [], [] => by simp [lexL]
  | [], _ :: _ => by simp [lexL]
  | _ :: _, [] => by simp [lexL]
  | x :: xs, y :: ys => by
    rw [lexL]
    by_cases h1 : x < y
    · rw [if_pos h1]
      exact ⟨fun h => absurd h (by decide), fun h => absurd h1 (by injection h with h _; rw [h]; exact slt_irrefl y)⟩
    · by_cases h2 : y < x
      · rw [if_neg h1, if_pos h2]
        exact ⟨fun h => absurd h (by decide), fun h => absurd h2 (by injection h with h _; rw [h]; exact slt_irrefl y)⟩
      · rw [if_neg h1, if_neg h2, lex_zero xs ys]
        have hxy : x = y := (slt_tri x y).elim (fun h => absurd h h1) (fun h => h.elim id (fun h => absurd h h2))
        simp [hxy]
theorem cmp_zero (xs ys : List Str) : cmpL xs ys = 0 ↔ xs = ys := by
  unfold cmpL
  by_cases h : cmpN xs.length ys.length = 0
  · rw [if_neg (by simp [h])]; exact lex_zero xs ys
  · rw [if_pos h]
    exact ⟨fun e => absurd e h, fun e => by subst e; exfalso; apply h; unfold cmpN; simp⟩
theorem lex_trans : ∀ (xs ys zs : List Str), lexL xs ys ≤ 0 → lexL ys zs ≤ 0 → lexL xs zs ≤ 0
  | [], _, [], _, _ => by simp [lexL]
  | [], _, _ :: _, _, _ => by simp [lexL]
  | _ :: _, [], _, h, _ => by simp [lexL] at h
  | _ :: _, _ :: _, [], _, h => by simp [lexL] at h
  | x :: xs, y :: ys, z :: zs, h1, h2 => by
    rw [lexL] at h1 h2 ⊢
    by_cases a1 : x < y
    · by_cases b1 : y < z
      · rw [if_pos (slt_trans a1 b1)]; omega
      · rw [if_neg b1] at h2
        by_cases b2 : z < y
        · rw [if_pos b2] at h2; omega
        · have : y = z := (slt_tri y z).elim (fun h => absurd h b1) (fun h => h.elim id (fun h => absurd h b2))
          subst this
          rw [if_pos a1]; omega
    · rw [if_neg a1] at h1
      by_cases a2 : y < x
      · rw [if_pos a2] at h1; omega
      · have : x = y := (slt_tri x y).elim (fun h => absurd h a1) (fun h => h.elim id (fun h => absurd h a2))
        subst this
        rw [if_neg a2] at h1
        by_cases b1 : x < z
        · rw [if_pos b1]; omega
        · rw [if_neg b1] at h2 ⊢
          by_cases b2 : z < x
          · rw [if_pos b2] at h2; omega
          · rw [if_neg b2] at h2 ⊢
            exact lex_trans xs ys zs h1 h2
theorem cmpL_lt {xs ys : List Str} (h : xs.length < ys.length) : cmpL xs ys = -1 := by unfold cmpL cmpN; rw [if_pos h]; rfl
theorem cmpL_gt {xs ys : List Str} (h : ys.length < xs.length) : cmpL xs ys = 1 := by unfold cmpL cmpN; rw [if_neg (show ¬ xs.length < ys.length by omega), if_pos h]; rfl
theorem cmpL_eq {xs ys : List Str} (h : xs.length = ys.length) : cmpL xs ys = lexL xs ys := by
  unfold cmpL cmpN; rw [if_neg (show ¬ xs.length < ys.length by omega), if_neg (show ¬ ys.length < xs.length by omega)]; rfl
theorem cmp_trans (xs ys zs : List Str) (h1 : cmpL xs ys ≤ 0) (h2 : cmpL ys zs ≤ 0) : cmpL xs zs ≤ 0 := by
  have f1 : ¬ ys.length < xs.length := fun a => by rw [cmpL_gt a] at h1; omega
  have f2 : ¬ zs.length < ys.length := fun a => by rw [cmpL_gt a] at h2; omega
  rcases Nat.lt_or_ge xs.length zs.length with h | h
  · rw [cmpL_lt h]; omega
  · rw [cmpL_eq (by omega)] at h1 h2 ⊢
    exact lex_trans xs ys zs h1 h2
theorem cmp_strict (xs ys zs : List Str) (h1 : cmpL xs ys ≤ 0) (h2 : cmpL ys zs ≤ 0) (h : cmpL xs zs = 0) : cmpL xs ys = 0 ∧ cmpL ys zs = 0 := by
  have e := (cmp_zero xs zs).1 h
  subst e
  have := cmp_anti xs ys
  omega
theorem cmpN_bd (a b : Nat) : -1 ≤ cmpN a b ∧ cmpN a b ≤ 1 := by unfold cmpN; split <;> (try split) <;> omega
theorem lex_bd : ∀ (xs ys : List Str), -1 ≤ lexL xs ys ∧ lexL xs ys ≤ 1
  | [], [] => by simp [lexL]
  | [], _ :: _ => by simp [lexL]
  | _ :: _, [] => by simp [lexL]
  | x :: xs, y :: ys => by
    rw [lexL]
    split
    · omega
    · split
      · omega
      · exact lex_bd xs ys
theorem cmp_bd (xs ys : List Str) : -1 ≤ cmpL xs ys ∧ cmpL xs ys ≤ 1 := by
  unfold cmpL
  split
  · exact cmpN_bd _ _
  · exact lex_bd _ _


theorem swo {α : Type} (S : α → List Str) : SWO (ltOf fun x y => cmpL (S x) (S y)) where
  irrefl x := by
    have := (cmp_zero (S x) (S x)).2 rfl
    simp [ltOf, this]
  trans x y z h1 h2 := by
    simp only [ltOf, decide_eq_true_eq] at *
    have h3 := cmp_trans (S x) (S y) (S z) (by omega) (by omega)
    by_cases h : cmpL (S x) (S z) = 0
    · have := cmp_strict (S x) (S y) (S z) (by omega) (by omega) h; omega
    · omega
  ntrans x y z h1 h2 := by
    simp only [ltOf, decide_eq_false_iff_not] at *
    have a1 := cmp_anti (S x) (S y)
    have a2 := cmp_anti (S y) (S z)
    have a3 := cmp_anti (S x) (S z)
    have h3 := cmp_trans (S z) (S y) (S x) (by omega) (by omega)
    omega

/-- The names at the set bits of b, of the first i places. -/
def pick (set : List Str) (b : Nat) : Nat → List Str
  | 0 => []
  | i + 1 => pick set b i ++ (if b.testBit i then [set.getD i []] else [])

theorem mem_pick (set : List Str) (b : Nat) (s : Str) : ∀ i, s ∈ pick set b i ↔ ∃ j, j < i ∧ b.testBit j = true ∧ s = set.getD j []
  | 0 => by simp [pick]
  | i + 1 => by
    unfold pick
    rw [List.mem_append, mem_pick set b s i]
    constructor
    · rintro (⟨j, h1, h2, h3⟩ | h)
      · exact ⟨j, by omega, h2, h3⟩
      · split at h
        · rename_i hb; exact ⟨i, by omega, hb, by simpa using h⟩
        · cases h
    · rintro ⟨j, h1, h2, h3⟩
      by_cases e : j = i
      · subst e; right; rw [if_pos h2]; simpa using h3
      · exact .inl ⟨j, by omega, h2, h3⟩

theorem getD_lt {set : List Str} (hs : set.Pairwise (· < ·)) {i j : Nat} (hij : i < j) (hj : j < set.length) : set.getD i [] < set.getD j [] := by
  have := List.pairwise_iff_getElem.1 hs i j (by omega) hj hij
  simpa [List.getD, hj, show i < set.length by omega] using this

theorem pick_sorted {set : List Str} (hs : set.Pairwise (· < ·)) (b : Nat) : ∀ i, i ≤ set.length → (pick set b i).Pairwise (· < ·)
  | 0, _ => by simp [pick]
  | i + 1, h => by
    unfold pick
    rw [List.pairwise_append]
    refine ⟨pick_sorted hs b i (by omega), by split <;> simp, fun x hx y hy => ?_⟩
    obtain ⟨j, h1, h2, rfl⟩ := (mem_pick set b x i).1 hx
    split at hy
    · simp only [List.mem_singleton] at hy; subst hy; exact getD_lt hs h1 (by omega)
    · cases hy

theorem pick_len (set : List Str) (b : Nat) : ∀ i, (pick set b i).length ≤ i
  | 0 => by simp [pick]
  | i + 1 => by
    have := pick_len set b i
    unfold pick; rw [List.length_append]; split <;> simp <;> omega

theorem pick_inj {set : List Str} (hs : set.Pairwise (· < ·)) {b c : Nat} (hb : b < 2 ^ set.length) (hc : c < 2 ^ set.length) (h : pick set b set.length = pick set c set.length) : b = c := by
  have key : ∀ (x y : Nat), pick set x set.length = pick set y set.length → ∀ j, j < set.length → x.testBit j = true → y.testBit j = true := by
    intro x y h j hj hx
    have h1 : set.getD j [] ∈ pick set x set.length := (mem_pick set x _ _).2 ⟨j, hj, hx, rfl⟩
    rw [h] at h1
    obtain ⟨i, h2, h3, h4⟩ := (mem_pick set y _ _).1 h1
    have : i = j := by
      rcases Nat.lt_trichotomy i j with h5 | h5 | h5
      · have := getD_lt hs h5 hj; rw [h4] at this; exact absurd this (List.lt_irrefl _)
      · exact h5
      · have := getD_lt hs h5 h2; rw [h4] at this; exact absurd this (List.lt_irrefl _)
    rw [← this]; exact h3
  apply Nat.eq_of_testBit_eq
  intro j
  by_cases hj : j < set.length
  · have k1 := key b c h j hj
    have k2 := key c b h.symm j hj
    cases hx : b.testBit j <;> cases hy : c.testBit j <;> simp_all
  · have p : 2 ^ set.length ≤ 2 ^ j := Nat.pow_le_pow_right (by omega) (by omega)
    rw [Nat.testBit_lt_two_pow (by omega), Nat.testBit_lt_two_pow (by omega)]

/-- The row of all places, sorted: no place twice, each set strictly less than the next. -/
theorem sorted_strict {N : Nat} [Inhabited (Fin N)] (S : Fin N → List Str) (hinj : ∀ x y, S x = S y → x = y) (d d' : Array (Fin N)) (hnd : d.toList.Nodup) (hp : PermIn 0 d.size d d') (hs : SortedIn (ltOf fun x y => cmpL (S x) (S y)) 0 d.size d') :
    ∀ i, i + 1 < d.size → cmpL (S d'[i]!) (S d'[i + 1]!) = -1 := by
  intro i hi
  obtain ⟨hsz, _, hperm⟩ := hp
  rw [← hsz, Array.extract_size, hsz, Array.extract_size] at hperm
  have hnd' : d'.toList.Nodup := hperm.nodup_iff.2 hnd
  have h1 := hs i (i + 1) (by omega) (by omega) hi
  simp only [ltOf, decide_eq_false_iff_not] at h1
  have a1 := cmp_anti (S d'[i]!) (S d'[i + 1]!)
  have b1 := cmp_bd (S d'[i]!) (S d'[i + 1]!)
  have hne : cmpL (S d'[i]!) (S d'[i + 1]!) ≠ 0 := by
    intro h
    have e := hinj _ _ ((cmp_zero _ _).1 h)
    have h2 := List.pairwise_iff_getElem.1 hnd' i (i + 1) (by simp; omega) (by simp; omega) (by omega)
    apply h2
    simpa [Array.getElem!_eq_getD, Array.getD, show i < d'.size by omega, show i + 1 < d'.size by omega] using e
  omega
end Go.Proofs.Ytgolodpihmdmoaa.namesSubsets
