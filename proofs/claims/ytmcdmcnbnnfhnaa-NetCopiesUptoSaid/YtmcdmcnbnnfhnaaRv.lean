/-
  A region that draws its order and makes memory of its own: an invariant over what is done, what the operations gave and the world.
-/
import Derived.Test.YtmcdmcnbnnfhnaaRg
namespace Go.Proofs.Ytmcdmcnbnnfhnaa
open Go.RowKit

def lfOf (st : Nat → Value) : Nat → List (Option Value) → List Left
  | _, [] => []
  | k, some v :: r => .is v :: lfOf st (k + 1) r
  | k, none :: r => .is (st k) :: lfOf st (k + 1) r
theorem lfOf_len (st : Nat → Value) : ∀ (lf : List (Option Value)) (k : Nat), (lfOf st k lf).length = lf.length
  | [], _ => rfl
  | some v :: r, k => by simp [lfOf, lfOf_len st r]
  | none :: r, k => by simp [lfOf, lfOf_len st r]
theorem lfOf_get (st : Nat → Value) : ∀ (lf : List (Option Value)) (k i : Nat) (x : Left), (lfOf st k lf)[i]? = some x → ∃ y, lf[i]? = some y ∧ x = .is (y.getD (st (k + i)))
  | [], _, _, _, h => by simp [lfOf] at h
  | some v :: r, k, 0, x, h => by
    simp [lfOf] at h; exact ⟨some v, rfl, h.symm⟩
  | none :: r, k, 0, x, h => by
    simp [lfOf] at h; exact ⟨none, rfl, h.symm⟩
  | some v :: r, k, i + 1, x, h => by
    simp only [lfOf, List.getElem?_cons_succ] at h
    obtain ⟨y, h1, h2⟩ := lfOf_get st r (k + 1) i x h
    exact ⟨y, by simpa using h1, by rw [h2, show k + 1 + i = k + (i + 1) by omega]⟩
  | none :: r, k, i + 1, x, h => by
    simp only [lfOf, List.getElem?_cons_succ] at h
    obtain ⟨y, h1, h2⟩ := lfOf_get st r (k + 1) i x h
    exact ⟨y, by simpa using h1, by rw [h2, show k + 1 + i = k + (i + 1) by omega]⟩
def upD (D : Nat → Bool) (i : Nat) : Nat → Bool := fun j => if j = i then true else D j
def upV (st : Nat → Value) (i : Nat) (v : Value) : Nat → Value := fun j => if j = i then v else st j
abbrev Inv := (Nat → Bool) → (Nat → Value) → World → Prop

def StepInv (P : Program) (ops : Array Oper) (Q : Exit → Act → World → Prop) (o : Oper) (l : Option Value) (i n0 : Nat) (J : Inv) (D : Nat → Bool) (st : Nat → Value) (w : World) (a : Act) : Prop :=
  ∀ K : Act → World → Prop, Shut (∀ v w', Below n0 w w' → (∀ u, l = some u → v = u) → J (upD D i) (upV st i v) w' → ∀ a', a' = a.put o.dst v → K a' w') → opStep P ops Q o K a w

inductive AllInv (P : Program) (ops : Array Oper) (Q : Exit → Act → World → Prop) (a0 : Act) (n0 : Nat) (J : Inv) (B : World → Prop) (all : List Oper) (lf : List (Option Value)) : Nat → List Oper → List (Option Value) → Prop
  | nil {k : Nat} : AllInv P ops Q a0 n0 J B all lf k [] []
  | cons {k : Nat} {o : Oper} {l : Option Value} {os : List Oper} {ls : List (Option Value)} :
      (∀ w, B w → ∀ D st, J D st w → D k = false → (∀ j ∈ depsOf o, D j = true) → StepGoal k (depsOf o) st w (StepInv P ops Q o l k n0 J D st w) 0 all (lfOf st 0 lf) a0) →
      AllInv P ops Q a0 n0 J B all lf (k + 1) os ls → AllInv P ops Q a0 n0 J B all lf k (o :: os) (l :: ls)
theorem AllInv.get {P : Program} {ops : Array Oper} {Q : Exit → Act → World → Prop} {a0 : Act} {n0 : Nat} {J : Inv} {B : World → Prop} {all : List Oper} {lf : List (Option Value)} {k : Nat} {os : List Oper} {ls : List (Option Value)} (h : AllInv P ops Q a0 n0 J B all lf k os ls) :
    ∀ (i : Nat) (o : Oper) (x : Option Value), os[i]? = some o → ls[i]? = some x → ∀ w, B w → ∀ D st, J D st w → D (k + i) = false → (∀ j ∈ depsOf o, D j = true) → StepGoal (k + i) (depsOf o) st w (StepInv P ops Q o x (k + i) n0 J D st w) 0 all (lfOf st 0 lf) a0 := by
  induction h with
  | nil => intro i o x h; simp at h
  | cons h1 _ ih =>
    intro i o x ho hx
    cases i with
    | zero =>
      simp at ho hx
      subst ho hx
      exact h1
    | succ i =>
      have := ih i o x (by simpa using ho) (by simpa using hx)
      rwa [show ∀ k i : Nat, k + 1 + i = k + (i + 1) from fun k i => by omega] at this

section
variable {P : Program} {l : List Oper} {Q : Exit → Act → World → Prop} {a0 : Act} {w0 : World} {lf : List (Option Value)} {J : Inv}

theorem wpAny_inv (n0 : Nat) (hlen : l.length = lf.length) (hd : distinctDst l = true) (he : edgesDown 0 l = true)
    (steps : ∀ (i : Nat) (o : Oper) (x : Option Value), l[i]? = some o → lf[i]? = some x → ∀ w, Below n0 w0 w → ∀ D st, J D st w → D i = false → (∀ j ∈ depsOf o, D j = true) → StepGoal i (depsOf o) st w (StepInv P l.toArray Q o x i n0 J D st w) 0 l (lfOf st 0 lf) a0)
    (fin : ∀ w', Below n0 w0 w' → ∀ D st, (∀ j, j < l.length → D j = true) → J D st w' → FinAll Q l (lfOf st 0 lf) a0 w') :
    ∀ (fuel : Nat) (L : Array Bool) (st : Nat → Value) (w : World), L.size = l.length → Closed l L → Fresh l a0 L st → (∀ j v, L.getD j false = true → lf[j]? = some (some v) → st j = v) → Below n0 w0 w → J (fun j => L.getD j false) st w →
      (List.range l.length).countP (fun j => !L.getD j true) ≤ fuel → wpAny P .any l.toArray Q fuel L (putAll l st 0 a0) w := by
  intro fuel
  have holds : ∀ (st : Nat → Value) (w : World) (D : Nat → Prop), (∀ j v, D j → lf[j]? = some (some v) → st j = v) → ∀ j x, D j → (lfOf st 0 lf)[j]? = some x → x.holds (st j) w := fun st w D h j x hj hx => by
    obtain ⟨y, h1, rfl⟩ := lfOf_get st lf 0 j x hx
    rw [Nat.zero_add]
    cases y with
    | none => rfl
    | some v => exact h j v hj h1
  have done : ∀ (L : Array Bool) (st : Nat → Value) (w : World), L.size = l.length → (∀ j v, L.getD j false = true → lf[j]? = some (some v) → st j = v) → Below n0 w0 w → J (fun j => L.getD j false) st w →
      (∀ j, j < l.length → L.getD j true = true) → Q .normal (putAll l st 0 a0) w := fun L st w hs hh hb hJ hall => by
    have hall' : ∀ j, j < l.length → L.getD j false = true := fun j hj => by
      have := hall j hj
      rw [Array.getD_eq_getD_getElem?, Array.getElem?_eq_getElem (by omega)] at this ⊢
      simpa using this
    refine finAll_use l (lfOf st 0 lf) 0 a0 (by rw [lfOf_len]; exact hlen) (fun i x hx => ?_) (fin w hb _ st hall' hJ)
    have hi : i < l.length := by rw [hlen, ← lfOf_len st lf 0]; exact (List.getElem?_eq_some_iff.1 hx).1
    rw [Nat.zero_add]
    exact holds st w (fun j => L.getD j false = true) hh i x (hall' i hi) hx
  have least : ∀ (L : Array Bool), L.size = l.length → Region.ready .any l.toArray L = [] → ∀ j, j < l.length → L.getD j true = true := fun L hs hr j => by
    induction j using Nat.strongRecOn with
    | _ j ih =>
      intro hj
      cases hc : L.getD j true with
      | true => rfl
      | false =>
        have hm : j ∈ Region.ready .any l.toArray L := mem_ready.2 ⟨l[j], by simp [hj], hc, fun k hk => by
          have hlt := edgesDown_get he (show l[j]? = some l[j] by simp [hj]) k hk
          rw [Nat.zero_add] at hlt
          have := ih k hlt (by omega)
          rw [Array.getD_eq_getD_getElem?, Array.getElem?_eq_getElem (by omega)] at this ⊢
          simpa using this⟩
        rw [hr] at hm; cases hm
  induction fuel with
  | zero =>
    intro L st w hs _ _ hh hb hJ hc
    have hall : ∀ j, j < l.length → L.getD j true = true := fun j hj => by
      have h0 := List.countP_eq_zero.1 (Nat.le_zero.1 hc) j (List.mem_range.2 hj)
      simpa using h0
    refine ⟨?_, done L st w hs hh hb hJ hall⟩
    refine List.eq_nil_iff_forall_not_mem.2 fun i hi => ?_
    obtain ⟨o, h1, h2, _⟩ := mem_ready.1 hi
    rw [hall i (List.getElem?_eq_some_iff.1 h1).1] at h2
    cases h2
  | succ fuel ih =>
    intro L st w hs hcl hor hh hb hJ hc
    refine ⟨fun hr => done L st w hs hh hb hJ (least L hs hr), fun i hi => ?_⟩
    obtain ⟨o, h1, h2, h3⟩ := mem_ready.1 hi
    have hil : i < l.length := (List.getElem?_eq_some_iff.1 h1).1
    have hx : lf[i]? = some (lf[i]'(by omega)) := by simp
    have h2' : L.getD i false = false := by
      rw [Array.getD_eq_getD_getElem?, Array.getElem?_eq_getElem (by omega)] at h2 ⊢
      simpa using h2
    have hstep := stepGoal_use (i := i) l (lfOf st 0 lf) 0 a0 (by rw [lfOf_len]; exact hlen) hd (fun j hj i' x e hx' => ?_) (hor.waits hs hcl h2) (steps i o _ h1 hx w hb _ st hJ h2' h3)
    · have key := hstep (fun a w' => wpAny P .any l.toArray Q fuel (L.setIfInBounds i true) a w') (fun v w' hb' hv hJ' a' ha' => ?_)
      · unfold wpOp
        simp only [List.getElem?_toArray, h1]
        unfold opStep at key
        split at key
        · rename_i hw; rw [if_pos hw]; exact .inl key
        · rename_i hw; rw [if_neg hw]; exact key
      · rw [ha', putAll_set hd h1]
        refine ih _ _ w' (by simpa using hs) (hcl.step (by omega) h1 h3) (hor.step (by omega)) (fun j u hj hx' => ?_) (hb.trans hb') ?_ ?_
        · rw [getD_set (by omega)] at hj
          rw [Nat.zero_add]
          by_cases e : j = i
          · subst e
            rw [hx] at hx'
            injection hx' with hx'
            rw [if_pos rfl]; exact hv u hx'
          · rw [if_neg e] at hj ⊢
            exact hh j u hj hx'
        · have e1 : (fun j => (L.setIfInBounds i true).getD j false) = upD (fun j => L.getD j false) i := by
            funext j
            rw [getD_set (by omega)]; rfl
          have e2 : (fun j => if j = 0 + i then v else st j) = upV st i v := by
            funext j
            rw [Nat.zero_add]; rfl
          rw [e1, e2]
          exact hJ'
        · have hlt := countP_lt (p := fun j => !L.getD j true) (p' := fun j => !(L.setIfInBounds i true).getD j true) (i := i) (fun j hj => by
            rw [getD_set (by omega)] at hj
            by_cases e : j = i
            · rw [if_pos e] at hj; cases hj
            · rw [if_neg e] at hj; exact hj) (by rw [h2]; rfl) (by rw [getD_set (by omega), if_pos rfl]; rfl) (List.range l.length) (List.mem_range.2 hil)
          omega
    · subst e
      rw [Nat.zero_add] at hj ⊢
      exact holds st w (fun j => L.getD j false = true) hh i' x (h3 i' hj) hx'

/-- A region that draws its order: each operation is shown once, under an invariant of what is done. -/
theorem region_inv (n0 : Nat) (J : Inv) (lf : List (Option Value)) {id : Nat} (hm : P.follows .mixedOrders = true) (hlen : l.length = lf.length) (hd : distinctDst l = true) (he : edgesDown 0 l = true)
    (hJ : ∀ st, J (fun _ => false) st w0.drew)
    (steps : AllInv P l.toArray Q a0 n0 J (fun w => Below n0 w0 w) l lf 0 l lf)
    (fin : ∀ w', Below n0 w0 w' → ∀ D st, (∀ j, j < l.length → D j = true) → J D st w' → FinAll Q l (lfOf st 0 lf) a0 w') : (Code.region id l.toArray true).wp P Q a0 w0 := by
  refine wp_region_any hm ?_
  have h0 : putAll l (fun j => match l[j]? with | some o => (match o.dst with | some d => a0.tmps.getD d undef | none => undef) | none => undef) 0 a0 = a0 :=
    putAll_self l _ 0 a0 (fun i o ho d hd => by rw [Nat.zero_add]; simp only [ho, hd])
  have hrep : ∀ j b, (Array.replicate l.toArray.size false).getD j b = if j < l.length then false else b := fun j b => by
    simp only [Array.getD_eq_getD_getElem?, Array.getElem?_replicate]
    by_cases h : j < l.length
    · simp [h]
    · simp [h]
  have h1 := wpAny_inv n0 hlen hd he (fun i o x ho hx => by have := steps.get i o x ho hx; rwa [Nat.zero_add] at this) fin l.toArray.size (Array.replicate l.toArray.size false) (fun j => match l[j]? with | some o => (match o.dst with | some d => a0.tmps.getD d undef | none => undef) | none => undef) w0.drew (by simp) (fun j o hj _ => by rw [hrep] at hj; split at hj <;> cases hj) (fun j o ho _ d hd => by simp only [ho, hd])
    (fun j x hj _ => by rw [hrep] at hj; split at hj <;> cases hj) ⟨rfl, rfl, rfl, Nat.le_refl _, fun _ _ => rfl⟩ (by
      have e : (fun j => (Array.replicate l.toArray.size false).getD j false) = fun _ => false := by
        funext j
        rw [hrep]; split <;> rfl
      rw [e]
      exact hJ _) (by
      refine Nat.le_trans (List.countP_le_length) ?_
      simp)
  rw [h0] at h1
  exact h1
end
end Go.Proofs.Ytmcdmcnbnnfhnaa
