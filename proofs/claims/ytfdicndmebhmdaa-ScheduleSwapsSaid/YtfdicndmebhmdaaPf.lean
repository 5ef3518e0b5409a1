/-
  Chapter 29, plain: the layers do not change when independent neighbours are exchanged.
-/
import Derived.Test.YtfdicndmebhmdaaPd
import Derived.Test.YtfdicndmebhmdaaPe
namespace Go.Proofs.Ytfdicndmebhmdaa

theorem perm_fold {α β : Type} {f : β → α → β} (hf : ∀ a x y, f (f a x) y = f (f a y) x) {l m : List α} (h : l.Perm m) : ∀ a, l.foldl f a = m.foldl f a := by
  induction h with
  | nil => intro a; rfl
  | cons x _ ih => intro a; exact ih _
  | swap x y l => intro a; show l.foldl f (f (f a y) x) = l.foldl f (f (f a x) y); rw [hf]
  | trans _ _ ih1 ih2 => intro a; exact (ih1 a).trans (ih2 a)
def mxL (S : List (Ev × Nat)) (e : Ev) : Nat := S.foldl (fun m p => if depE p.1 e = true then max m (p.2 + 1) else m) 0
def lstF (S : List (Ev × Nat)) (t : List Ev) : List (Ev × Nat) := t.foldl (fun S e => S ++ [(e, mxL S e)]) S
theorem mxL_perm {S T : List (Ev × Nat)} (h : S.Perm T) (e : Ev) : mxL S e = mxL T e :=
  perm_fold (fun a x y => by
    by_cases h1 : depE x.1 e = true
    · by_cases h2 : depE y.1 e = true
      · rw [if_pos h1, if_pos h2, if_pos h2, if_pos h1]; omega
      · rw [if_pos h1, if_neg h2, if_neg h2, if_pos h1]
    · rw [if_neg h1, if_neg h1]) h 0
theorem mxL_snoc {S : List (Ev × Nat)} {p : Ev × Nat} {e : Ev} (h : depE p.1 e = false) : mxL (S ++ [p]) e = mxL S e := by
  unfold mxL
  rw [List.foldl_append]
  simp [h]
theorem lstF_perm : ∀ {t : List Ev} {S T : List (Ev × Nat)}, S.Perm T → (lstF S t).Perm (lstF T t)
  | [], _, _, h => h
  | e :: t, S, T, h => by
    show (lstF (S ++ [(e, mxL S e)]) t).Perm (lstF (T ++ [(e, mxL T e)]) t)
    rw [mxL_perm h e]
    exact lstF_perm (h.append_right _)
theorem lstF_swap {a b : Ev} (u v : List Ev) (h : depE a b = false) : (lstF [] (u ++ a :: b :: v)).Perm (lstF [] (u ++ b :: a :: v)) := by
  have e : ∀ x y : Ev, lstF [] (u ++ x :: y :: v) = lstF (lstF [] u ++ [(x, mxL (lstF [] u) x)] ++ [(y, mxL (lstF [] u ++ [(x, mxL (lstF [] u) x)]) y)]) v := by
    intro x y
    unfold lstF
    rw [List.foldl_append, List.foldl_cons, List.foldl_cons]
  rw [e a b, e b a, mxL_snoc (p := (a, mxL (lstF [] u) a)) h, mxL_snoc (p := (b, mxL (lstF [] u) b)) (by rw [depE_comm]; exact h)]
  refine lstF_perm ?_
  rw [List.append_assoc, List.append_assoc]
  exact (List.Perm.swap _ _ []).append_left _
theorem lstF_eqv {x y : List Ev} (h : Eqv x y) : (lstF [] x).Perm (lstF [] y) := by
  induction h with
  | refl => exact .refl _
  | step u v _ h ih => exact ih.trans (lstF_swap u v h)
theorem lst_take (t : List Ev) : ∀ k, k ≤ t.length → lstF [] (t.take k) = (List.range k).map fun i => (nthE t i, ly t i)
  | 0, _ => by simp [lstF]
  | k + 1, h => by
    have ih := lst_take t k (by omega)
    have ht : t.take (k + 1) = t.take k ++ [nthE t k] := by rw [List.take_succ_eq_append_getElem (by omega), nthE_eq (by omega)]
    rw [ht]
    have e : lstF [] (t.take k ++ [nthE t k]) = lstF [] (t.take k) ++ [(nthE t k, mxL (lstF [] (t.take k)) (nthE t k))] := by
      unfold lstF; rw [List.foldl_append]; rfl
    rw [e, ih, List.range_succ, List.map_append]
    congr 1
    have : mxL ((List.range k).map fun i => (nthE t i, ly t i)) (nthE t k) = ly t k := by
      unfold mxL
      rw [List.foldl_map, ly_eq]
      rfl
    rw [this]; rfl
theorem lst_eq (t : List Ev) : lstF [] t = (List.range t.length).map fun i => (nthE t i, ly t i) := by
  have h := lst_take t t.length (Nat.le_refl _)
  rwa [List.take_length] at h
theorem nl_lst (t : List Ev) : nl t t.length = (lstF [] t).foldl (fun m p => max m (p.2 + 1)) 0 := by
  rw [lst_eq, List.foldl_map]; rfl
theorem lyN_lst (t : List Ev) (l : Nat) : lyN t t.length l = ((lstF [] t).filter fun p => p.2 == l).map fun p => p.1.1 := by
  rw [lst_eq, List.filter_map, List.map_map]
  rfl
theorem sorted_ints : ∀ {l m : List Int}, l.Perm m → l.Pairwise (· ≤ ·) → m.Pairwise (· ≤ ·) → l = m
  | [], m, hp, _, _ => hp.nil_eq
  | x :: l, [], hp, _, _ => absurd hp.symm.nil_eq (by simp)
  | x :: l, y :: m, hp, hl, hm => by
    rw [List.pairwise_cons] at hl hm
    have h1 : x ≤ y := by
      rcases List.mem_cons.1 (hp.mem_iff.2 (List.mem_cons_self (a := y))) with e | e
      · omega
      · exact hl.1 y e
    have h2 : y ≤ x := by
      rcases List.mem_cons.1 (hp.mem_iff.1 (List.mem_cons_self (a := x))) with e | e
      · omega
      · exact hm.1 x e
    have e : x = y := by omega
    subst e
    rw [sorted_ints (hp.cons_inv) hl.2 hm.2]
theorem sortI_same {l m : List Int} (h : l.Perm m) : sortI l = sortI m := sorted_ints (((sortI_perm l).trans h).trans (sortI_perm m).symm) (sortI_le l) (sortI_le m)
theorem layE_prj {x y : List Ev} (h : Prj x y) : layE x = layE y := by
  have hp := lstF_eqv (prj_eqv h)
  unfold layE
  rw [nl_lst, nl_lst, perm_fold (fun a x y => by omega) hp]
  refine List.map_congr_left fun l _ => ?_
  rw [lyN_lst, lyN_lst]
  exact sortI_same ((hp.filter _).map _)
theorem linsE_prj {x y : List Ev} (h : Prj x y) : linsE x = linsE y := by
  rw [linsE_eq, linsE_eq, h.len]; exact h.linsV _
end Go.Proofs.Ytfdicndmebhmdaa
