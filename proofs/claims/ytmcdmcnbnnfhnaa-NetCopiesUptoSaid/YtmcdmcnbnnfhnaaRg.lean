/-
  A region that draws its order, each of whose operations leaves what stood at the start as it was: each operation is shown once, whatever order is drawn.
-/
import Derived.Test.YtmcdmcnbnnfhnaaLb
import Derived.Deep.RegionHeld
namespace Go.Proofs.Ytmcdmcnbnnfhnaa
open Go.RowKit

/-- What an operation leaves: a value, or a value of which something holds from then on. -/
inductive Left where
  | is (v : Value)
  | has (p : Value → World → Prop) (h : ∀ x w w', Below w.heap.size w w' → p x w → p x w')

def Left.holds : Left → Value → World → Prop
  | .is v, x, _ => x = v
  | .has p _, x, w => p x w
theorem Left.on {l : Left} {x : Value} {w w' : World} (h : l.holds x w) (hb : Below w.heap.size w w') : l.holds x w' := by
  cases l with
  | is v => exact h
  | has p hp => exact hp _ _ _ hb h

def opStep (P : Program) (ops : Array Oper) (Q : Exit → Act → World → Prop) (o : Oper) (K : Act → World → Prop) (a : Act) (w : World) : Prop :=
  if Region.wanted o (yielded ops a.tmps) = true then Oper.wp P o a w K Q else K (a.put o.dst undef) w

def putAll : List Oper → (Nat → Value) → Nat → Act → Act
  | [], _, _, a => a
  | o :: os, st, k, a => putAll os st (k + 1) (a.put o.dst (st k))

def distinctDst : List Oper → Bool
  | [] => true
  | o :: os => (match o.dst with | none => true | some d => os.all fun o' => !(o'.dst == some d)) && distinctDst os

def depsOf (o : Oper) : List Nat := (o.after.toList.filter (Region.binds .any)).map (·.on)
def edgesDown : Nat → List Oper → Bool
  | _, [] => true
  | i, o :: os => (depsOf o).all (fun j => decide (j < i)) && edgesDown (i + 1) os

def onlyAfter (l : List Left) (deps : List Nat) (st : Nat → Value) (w : World) : Prop := ∀ j ∈ deps, (l.getD j (.is undef)).holds (st j) w

/-- The step's goal: what it waits for is in its slot; what waits for it has not come up; of the other slots nothing is said. -/
def StepGoal (i : Nat) (deps : List Nat) (st : Nat → Value) (w : World) (G : Act → Prop) : Nat → List Oper → List Left → Act → Prop
  | k, o :: os, l :: ls, a =>
    match deps.contains k, (depsOf o).contains i, l with
    | true, _, .is u => StepGoal i deps st w G (k + 1) os ls (a.put o.dst u)
    | true, _, .has p _ => ∀ x, p x w → StepGoal i deps st w G (k + 1) os ls (a.put o.dst x)
    | false, true, _ => StepGoal i deps st w G (k + 1) os ls a
    | false, false, _ => StepGoal i deps st w G (k + 1) os ls (a.put o.dst (st k))
  | _, _, _, a => G a

def StepOk (P : Program) (ops : Array Oper) (Q : Exit → Act → World → Prop) (o : Oper) (l : Left) (w : World) (a : Act) : Prop :=
  ∀ K : Act → World → Prop, Shut (∀ v w', Below w.heap.size w w' → l.holds v w' → ∀ a', a' = a.put o.dst v → K a' w') → opStep P ops Q o K a w

inductive AllSteps (P : Program) (ops : Array Oper) (Q : Exit → Act → World → Prop) (a0 : Act) (B : World → Prop) (all : List Oper) (lf : List Left) : Nat → List Oper → List Left → Prop
  | nil {k : Nat} : AllSteps P ops Q a0 B all lf k [] []
  | cons {k : Nat} {o : Oper} {l : Left} {os : List Oper} {ls : List Left} : (∀ w, B w → ∀ st, StepGoal k (depsOf o) st w (StepOk P ops Q o l w) 0 all lf a0) → AllSteps P ops Q a0 B all lf (k + 1) os ls → AllSteps P ops Q a0 B all lf k (o :: os) (l :: ls)

def FinAll (Q : Exit → Act → World → Prop) : List Oper → List Left → Act → World → Prop
  | o :: os, .is u :: ls, a, w => FinAll Q os ls (a.put o.dst u) w
  | o :: os, .has p _ :: ls, a, w => ∀ x, p x w → FinAll Q os ls (a.put o.dst x) w
  | _, _, a, w => Q .normal a w

theorem put_same (a : Act) (d : Option Tmp) (x y : Value) : (a.put d x).put d y = a.put d y := by
  cases d with
  | none => rfl
  | some d => simp [Act.put]
theorem put_other (a : Act) {d e : Option Tmp} (h : ∀ t, d = some t → e ≠ some t) (x y : Value) : (a.put d x).put e y = (a.put e y).put d x := by
  cases d with
  | none => cases e <;> rfl
  | some d =>
    cases e with
    | none => rfl
    | some e =>
      have hne : d ≠ e := fun he => h d rfl (by rw [he])
      simp only [Act.put]
      rw [Array.setIfInBounds_comm _ _ hne]
theorem put_own (a : Act) (d : Tmp) : a.put (some d) (a.tmps.getD d undef) = a := by
  obtain ⟨t, de⟩ := a
  simp only [Act.put]
  congr 1
  apply Array.ext
  · simp
  · intro i h1 h2
    rw [Array.getElem_setIfInBounds]
    split
    · rename_i e
      subst e
      simp [Array.getD, h2]
    · rfl

theorem putAll_put {os : List Oper} {d : Option Tmp} (h : ∀ t, d = some t → ∀ o ∈ os, o.dst ≠ some t) : ∀ (st : Nat → Value) (k : Nat) (a : Act) (v : Value), (putAll os st k a).put d v = putAll os st k (a.put d v) := by
  induction os with
  | nil => intros; rfl
  | cons o os ih =>
    intro st k a v
    simp only [putAll]
    rw [ih (fun t ht o' ho' => h t ht o' (List.mem_cons_of_mem _ ho')), put_other a (d := o.dst) (e := d)]
    intro t ht he
    exact h t he o (List.mem_cons_self ..) ht
theorem putAll_congr {os : List Oper} : ∀ {st st' : Nat → Value} {k : Nat} {a : Act}, (∀ j, k ≤ j → j < k + os.length → st j = st' j) → putAll os st k a = putAll os st' k a := by
  induction os with
  | nil => intros; rfl
  | cons o os ih =>
    intro st st' k a h
    simp only [putAll]
    rw [h k (Nat.le_refl _) (by simp), ih (fun j h1 h2 => h j (by omega) (by simp; omega))]
theorem putAll_set : ∀ {os : List Oper} {i : Nat} {o : Oper} {k : Nat}, distinctDst os = true → os[i]? = some o → ∀ (st : Nat → Value) (a : Act) (v : Value),
    (putAll os st k a).put o.dst v = putAll os (fun j => if j = k + i then v else st j) k a := by
  intro os
  induction os with
  | nil => intro i o k _ h; simp at h
  | cons p os ih =>
    intro i o k hd h st a v
    simp only [distinctDst, Bool.and_eq_true] at hd
    cases i with
    | zero =>
      simp at h
      subst h
      simp only [putAll]
      rw [putAll_put (fun t ht o' ho' => ?_), put_same]
      · simp only [Nat.add_zero, if_true]
        exact putAll_congr fun j h1 _ => by rw [if_neg (by omega)]
      · have h1 := hd.1
        rw [ht] at h1
        simp only [List.all_eq_true, Bool.not_eq_true', beq_eq_false_iff_ne] at h1
        exact h1 o' ho'
    | succ i =>
      rw [List.getElem?_cons_succ] at h
      simp only [putAll]
      rw [ih hd.2 h]
      rw [if_neg (by omega)]
      exact putAll_congr fun j h1 h2 => by
        by_cases hj : j = k + 1 + i
        · rw [if_pos hj, if_pos (by omega)]
        · rw [if_neg hj, if_neg (by omega)]
theorem putAll_self : ∀ (os : List Oper) (st : Nat → Value) (k : Nat) (a : Act), (∀ i o, os[i]? = some o → ∀ d, o.dst = some d → st (k + i) = a.tmps.getD d undef) → putAll os st k a = a := by
  intro os
  induction os with
  | nil => intros; rfl
  | cons o os ih =>
    intro st k a h
    simp only [putAll]
    have h0 : a.put o.dst (st k) = a := by
      have := h 0 o rfl
      cases hd : o.dst with
      | none => rfl
      | some d =>
        have e := this d hd
        rw [Nat.add_zero] at e
        rw [e]; exact put_own a d
    rw [h0]
    refine ih st (k + 1) a fun i o' ho' d hd => ?_
    have := h (i + 1) o' (by simpa using ho') d hd
    rw [show k + 1 + i = k + (i + 1) by omega]
    exact this

theorem countP_lt {p p' : Nat → Bool} (h : ∀ j, p' j = true → p j = true) {i : Nat} (hi : p i = true) (hn : p' i = false) : ∀ (l : List Nat), i ∈ l → l.countP p' < l.countP p
  | [], hm => by cases hm
  | x :: l, hm => by
    have hle : l.countP p' ≤ l.countP p := List.countP_mono_left fun j _ => h j
    rw [List.countP_cons, List.countP_cons]
    rcases List.mem_cons.1 hm with rfl | hm
    · rw [hi, hn]; simp; omega
    · have := countP_lt h hi hn l hm
      have hx := h x
      cases h1 : p' x <;> cases h2 : p x <;> simp_all <;> omega

theorem getD_put {a : Act} {e : Option Tmp} {d : Tmp} (h : e ≠ some d) (v : Value) : (a.put e v).tmps.getD d undef = a.tmps.getD d undef := by
  cases e with
  | none => rfl
  | some e =>
    have hne : e ≠ d := fun he => h (by rw [he])
    simp only [Act.put, Array.getD_eq_getD_getElem?, Array.getElem?_setIfInBounds]
    rw [if_neg hne]
theorem stepGoal_use {i : Nat} {deps : List Nat} {st : Nat → Value} {w : World} {G : Act → Prop} : ∀ (os : List Oper) (ls : List Left) (k : Nat) (a : Act), os.length = ls.length → distinctDst os = true →
    (∀ j ∈ deps, ∀ (i : Nat) (l : Left), j = k + i → ls[i]? = some l → l.holds (st j) w) → (∀ (j : Nat) (o : Oper), os[j]? = some o → (depsOf o).contains i = true → ∀ d, o.dst = some d → st (k + j) = a.tmps.getD d undef) →
    StepGoal i deps st w G k os ls a → G (putAll os st k a)
  | [], [], _, _, _, _, _, _, h => h
  | o :: os, l :: ls, k, a, hl, hdi, hd, hn, h => by
    simp only [distinctDst, Bool.and_eq_true] at hdi
    have hrest : ∀ j ∈ deps, ∀ (i : Nat) (l : Left), j = k + 1 + i → ls[i]? = some l → l.holds (st j) w := fun j hj i l' e h' => hd j hj (i + 1) l' (by omega) (by simpa using h')
    have hl' : os.length = ls.length := by simpa using hl
    have hn' : ∀ v, ∀ (j : Nat) (o' : Oper), os[j]? = some o' → (depsOf o').contains i = true → ∀ d, o'.dst = some d → st (k + 1 + j) = (a.put o.dst v).tmps.getD d undef := fun v j o' ho' hc d hd' => by
      have h0 := hn (j + 1) o' (by simpa using ho') hc d hd'
      rw [show k + (j + 1) = k + 1 + j by omega] at h0
      rw [h0, getD_put]
      intro e
      have h1 := hdi.1
      rw [e] at h1
      simp only [List.all_eq_true, Bool.not_eq_true', beq_eq_false_iff_ne] at h1
      exact h1 o' (List.mem_of_getElem? ho') hd'
    have := stepGoal_use (G := G) os ls (k + 1) (a.put o.dst (st k)) hl' hdi.2 hrest (hn' _)
    simp only [putAll]
    apply this
    unfold StepGoal at h
    cases hc : deps.contains k with
    | false =>
      cases hw : (depsOf o).contains i with
      | false => rw [hc, hw] at h; cases l <;> exact h
      | true =>
        rw [hc, hw] at h
        have h0 : a.put o.dst (st k) = a := by
          cases hdst : o.dst with
          | none => rfl
          | some d =>
            have := hn 0 o rfl hw d hdst
            rw [Nat.add_zero] at this
            rw [this]; exact put_own a d
        rw [h0]
        cases l <;> exact h
    | true =>
      rw [hc] at h
      have hk := hd k (by simpa using hc) 0 l (by omega) rfl
      cases l with
      | is u => rw [show st k = u from hk]; exact h
      | has p hp => exact h _ hk

theorem finAll_use {Q : Exit → Act → World → Prop} {st : Nat → Value} {w : World} : ∀ (os : List Oper) (ls : List Left) (k : Nat) (a : Act), os.length = ls.length →
    (∀ (i : Nat) (l : Left), ls[i]? = some l → l.holds (st (k + i)) w) → FinAll Q os ls a w → Q .normal (putAll os st k a) w
  | [], [], _, _, _, _, h => h
  | o :: os, l :: ls, k, a, hl, hd, h => by
    have hl' : os.length = ls.length := by simpa using hl
    have := finAll_use (Q := Q) os ls (k + 1) (a.put o.dst (st k)) hl' (fun i l' h' => by
      have := hd (i + 1) l' (by simpa using h')
      rwa [show k + (i + 1) = k + 1 + i by omega] at this)
    simp only [putAll]
    apply this
    have hk := hd 0 l rfl
    cases l with
    | is u => rw [show st k = u from hk]; exact h
    | has p hp => exact h _ hk

theorem AllSteps.get {P : Program} {ops : Array Oper} {Q : Exit → Act → World → Prop} {a0 : Act} {B : World → Prop} {all : List Oper} {lf : List Left} : ∀ {k : Nat} {os : List Oper} {ls : List Left}, AllSteps P ops Q a0 B all lf k os ls →
    ∀ (i : Nat) (o : Oper) (l : Left), os[i]? = some o → ls[i]? = some l → ∀ w, B w → ∀ st, StepGoal (k + i) (depsOf o) st w (StepOk P ops Q o l w) 0 all lf a0
  | _, _, _, .nil, i, o, l, h, _ => by simp at h
  | _, _, _, .cons h0 hs, 0, o, l, h, h' => by
    simp at h h'
    subst h h'
    exact h0
  | k, _, _, .cons h0 hs, i + 1, o, l, h, h' => by
    have := hs.get i o l (by simpa using h) (by simpa using h')
    rwa [show k + 1 + i = k + (i + 1) by omega] at this

theorem edgesDown_get : ∀ {os : List Oper} {k i : Nat} {o : Oper}, edgesDown k os = true → os[i]? = some o → ∀ j ∈ depsOf o, j < k + i := by
  intro os
  induction os with
  | nil => intro k i o _ h; simp at h
  | cons p os ih =>
    intro k i o h hi
    simp only [edgesDown, Bool.and_eq_true, List.all_eq_true, decide_eq_true_eq] at h
    cases i with
    | zero => simp at hi; subst hi; intro j hj; exact h.1 j hj
    | succ i =>
      intro j hj
      have := ih h.2 (by simpa using hi) j hj
      omega

section
variable {P : Program} {l : List Oper} {Q : Exit → Act → World → Prop} {a0 : Act} {w0 : World} {lf : List Left}

theorem mem_ready {L : Array Bool} {i : Nat} : i ∈ Region.ready .any l.toArray L ↔ ∃ o, l[i]? = some o ∧ L.getD i true = false ∧ ∀ j ∈ depsOf o, L.getD j false = true := by
  unfold Region.ready depsOf
  rw [List.mem_filter, List.mem_range, Bool.and_eq_true]
  constructor
  · rintro ⟨h1, h2, h3⟩
    have hi : i < l.length := by simpa using h1
    refine ⟨l[i], by simp [hi], by simpa using h2, fun j hj => ?_⟩
    simp only [List.getElem?_toArray, List.getElem?_eq_getElem hi, Option.map_some, Option.getD_some, Array.all_eq_true_iff_forall_mem, Bool.or_eq_true, Bool.not_eq_true'] at h3
    simp only [List.mem_map, List.mem_filter] at hj
    obtain ⟨e, ⟨he, hb⟩, rfl⟩ := hj
    rcases h3 e (by simpa using he) with h | h
    · rw [hb] at h; cases h
    · exact h
  · rintro ⟨o, h1, h2, h3⟩
    have hi : i < l.length := (List.getElem?_eq_some_iff.1 h1).1
    refine ⟨by simpa using hi, by simpa using h2, ?_⟩
    simp only [List.getElem?_toArray, h1, Option.map_some, Option.getD_some, Array.all_eq_true_iff_forall_mem, Bool.or_eq_true, Bool.not_eq_true']
    intro e he
    cases hb : Region.binds .any e with
    | false => exact .inl rfl
    | true => exact .inr (h3 _ (by simp only [List.mem_map, List.mem_filter]; exact ⟨e, ⟨by simpa using he, hb⟩, rfl⟩))

theorem getD_set {L : Array Bool} {i j : Nat} {b : Bool} (hi : i < L.size) : (L.setIfInBounds i true).getD j b = if j = i then true else L.getD j b := by
  simp only [Array.getD_eq_getD_getElem?, Array.getElem?_setIfInBounds]
  by_cases h : i = j
  · subst h; simp [hi]
  · rw [if_neg h, if_neg (fun e => h e.symm)]

theorem getD_tf {L : Array Bool} {j : Nat} (h : L.getD j false = true) : L.getD j true = true := by
  rw [Array.getD_eq_getD_getElem?] at h ⊢
  cases hx : L[j]? with
  | none => rfl
  | some b => rw [hx] at h; simpa using h

/-- What has come up, with it what it waits for. -/
def Closed (l : List Oper) (L : Array Bool) : Prop := ∀ j o, L.getD j false = true → l[j]? = some o → ∀ k ∈ depsOf o, L.getD k false = true
/-- The slot of what has not come up is as it was. -/
def Fresh (l : List Oper) (a0 : Act) (L : Array Bool) (st : Nat → Value) : Prop := ∀ j o, l[j]? = some o → L.getD j true = false → ∀ d, o.dst = some d → st j = a0.tmps.getD d undef
theorem Closed.step {L : Array Bool} {i : Nat} {o : Oper} (h : Closed l L) (hi : i < L.size) (ho : l[i]? = some o) (h3 : ∀ j ∈ depsOf o, L.getD j false = true) : Closed l (L.setIfInBounds i true) := fun j o' hj ho' k hk => by
  rw [getD_set hi] at hj ⊢
  split
  · rfl
  · by_cases e : j = i
    · subst e
      rw [ho] at ho'
      injection ho' with ho'
      subst ho'
      exact h3 k hk
    · rw [if_neg e] at hj
      exact h j o' hj ho' k hk
theorem Fresh.step {L : Array Bool} {st : Nat → Value} {i : Nat} {v : Value} (h : Fresh l a0 L st) (hi : i < L.size) : Fresh l a0 (L.setIfInBounds i true) (fun j => if j = 0 + i then v else st j) := fun j o ho hj d hd => by
  rw [getD_set hi] at hj
  by_cases e : j = i
  · rw [if_pos e] at hj; cases hj
  · rw [if_neg e] at hj
    show (if j = 0 + i then v else st j) = _
    rw [if_neg (by omega)]
    exact h j o ho hj d hd
theorem Fresh.waits {L : Array Bool} {st : Nat → Value} {i : Nat} (h : Fresh l a0 L st) (hs : L.size = l.length) (hc : Closed l L) (hi : L.getD i true = false) (j : Nat) (o : Oper) (ho : l[j]? = some o) (hw : (depsOf o).contains i = true) (d : Tmp) (hd : o.dst = some d) : st (0 + j) = a0.tmps.getD d undef := by
  rw [Nat.zero_add]
  refine h j o ho ?_ d hd
  cases hj : L.getD j false with
  | true =>
    have := getD_tf (hc j o hj ho i (by simpa using hw))
    rw [hi] at this; cases this
  | false =>
    have hlt : j < L.size := by rw [hs]; exact (List.getElem?_eq_some_iff.1 ho).1
    rw [Array.getD_eq_getD_getElem?, Array.getElem?_eq_getElem hlt] at hj ⊢
    simpa using hj

theorem wpAny_left (n : Nat) (hlen : l.length = lf.length) (hd : distinctDst l = true) (he : edgesDown 0 l = true)
    (steps : ∀ (i : Nat) (o : Oper) (x : Left), n ≤ i → l[i]? = some o → lf[i]? = some x → ∀ w, Below w0.heap.size w0 w → ∀ st, StepGoal i (depsOf o) st w (StepOk P l.toArray Q o x w) 0 l lf a0)
    (fin : ∀ w', Below w0.heap.size w0 w' → FinAll Q l lf a0 w') :
    ∀ (fuel : Nat) (L : Array Bool) (st : Nat → Value) (w : World), L.size = l.length → Closed l L → Fresh l a0 L st → (∀ j, j < n → L.getD j true = true) → (∀ j x, L.getD j false = true → lf[j]? = some x → x.holds (st j) w) → Below w0.heap.size w0 w →
      (List.range l.length).countP (fun j => !L.getD j true) ≤ fuel → wpAny P .any l.toArray Q fuel L (putAll l st 0 a0) w := by
  intro fuel
  have done : ∀ (L : Array Bool) (st : Nat → Value) (w : World), L.size = l.length → (∀ j x, L.getD j false = true → lf[j]? = some x → x.holds (st j) w) → Below w0.heap.size w0 w →
      (∀ j, j < l.length → L.getD j true = true) → Q .normal (putAll l st 0 a0) w := fun L st w hs hh hb hall => by
    refine finAll_use l lf 0 a0 hlen (fun i x hx => ?_) (fin w hb)
    have hi : i < l.length := by rw [hlen]; exact (List.getElem?_eq_some_iff.1 hx).1
    rw [Nat.zero_add]
    refine hh i x ?_ hx
    have := hall i hi
    rw [Array.getD_eq_getD_getElem?, Array.getElem?_eq_getElem (by omega)] at this ⊢
    simpa using this
  have least : ∀ (L : Array Bool), L.size = l.length → Region.ready .any l.toArray L = [] → ∀ j, j < l.length → L.getD j true = true := fun L hs hr j => by
    induction j using Nat.strongRecOn with
    | _ j ih =>
      intro hj
      cases hc : L.getD j true with
      | true => rfl
      | false =>
        have hm : j ∈ Region.ready .any l.toArray L := mem_ready.2 ⟨l[j], by simp [hj], hc, fun k hk => by
          have hlt := edgesDown_get he (show l[j]? = some l[j] by simp [hj]) k hk
          rw [Nat.zero_add] at hlt
          have := ih k hlt (by omega)
          rw [Array.getD_eq_getD_getElem?, Array.getElem?_eq_getElem (by omega)] at this ⊢
          simpa using this⟩
        rw [hr] at hm; cases hm
  induction fuel with
  | zero =>
    intro L st w hs _ _ _ hh hb hc
    have hall : ∀ j, j < l.length → L.getD j true = true := fun j hj => by
      have h0 := List.countP_eq_zero.1 (Nat.le_zero.1 hc) j (List.mem_range.2 hj)
      simpa using h0
    refine ⟨?_, done L st w hs hh hb hall⟩
    refine List.eq_nil_iff_forall_not_mem.2 fun i hi => ?_
    obtain ⟨o, h1, h2, _⟩ := mem_ready.1 hi
    rw [hall i (List.getElem?_eq_some_iff.1 h1).1] at h2
    cases h2
  | succ fuel ih =>
    intro L st w hs hcl hor hn hh hb hc
    refine ⟨fun hr => done L st w hs hh hb (least L hs hr), fun i hi => ?_⟩
    obtain ⟨o, h1, h2, h3⟩ := mem_ready.1 hi
    have hil : i < l.length := (List.getElem?_eq_some_iff.1 h1).1
    have hx : lf[i]? = some lf[i] := by simp
    have hstep := stepGoal_use (i := i) l lf 0 a0 hlen hd (fun j hj i' x e hx' => ?_) (hor.waits hs hcl h2) (steps i o lf[i] (by
        rcases Nat.lt_or_ge i n with h | h
        · rw [hn i h] at h2; cases h2
        · exact h) h1 hx w hb st)
    · have key := hstep (fun a w' => wpAny P .any l.toArray Q fuel (L.setIfInBounds i true) a w') (fun v w' hb' hv a' ha' => ?_)
      · unfold wpOp
        simp only [List.getElem?_toArray, h1]
        unfold opStep at key
        split at key
        · rename_i hw; rw [if_pos hw]; exact .inl key
        · rename_i hw; rw [if_neg hw]; exact key
      · rw [ha', putAll_set hd h1]
        refine ih _ _ w' (by simpa using hs) (hcl.step (by omega) h1 h3) (hor.step (by omega)) (fun j hj => by
          rw [getD_set (by omega)]
          by_cases e : j = i
          · rw [if_pos e]
          · rw [if_neg e]; exact hn j hj) (fun j x hj hx' => ?_) (hb.trans (hb'.mono hb.size)) ?_
        · rw [getD_set (by omega)] at hj
          rw [Nat.zero_add]
          by_cases e : j = i
          · subst e
            rw [hx] at hx'
            injection hx' with hx'
            subst hx'
            rw [if_pos rfl]; exact hv
          · rw [if_neg e] at hj ⊢
            exact Left.on (hh j x hj hx') hb'
        · have hlt := countP_lt (p := fun j => !L.getD j true) (p' := fun j => !(L.setIfInBounds i true).getD j true) (i := i) (fun j hj => by
            rw [getD_set (by omega)] at hj
            by_cases e : j = i
            · rw [if_pos e] at hj; cases hj
            · rw [if_neg e] at hj; exact hj) (by rw [h2]; rfl) (by rw [getD_set (by omega), if_pos rfl]; rfl) (List.range l.length) (List.mem_range.2 hil)
          omega
    · subst e
      rw [Nat.zero_add] at hj ⊢
      exact hh i' x (h3 i' hj) hx'

/-- A region that draws its order: each operation is shown once. -/
theorem region_left (lf : List Left) {id : Nat} (hm : P.follows .mixedOrders = true) (hlen : l.length = lf.length) (hd : distinctDst l = true) (he : edgesDown 0 l = true) (steps : AllSteps P l.toArray Q a0 (fun w => Below w0.heap.size w0 w) l lf 0 l lf)
    (fin : ∀ w', Below w0.heap.size w0 w' → FinAll Q l lf a0 w') : (Code.region id l.toArray true).wp P Q a0 w0 := by
  refine wp_region_any hm ?_
  have h0 : putAll l (fun j => match l[j]? with | some o => (match o.dst with | some d => a0.tmps.getD d undef | none => undef) | none => undef) 0 a0 = a0 :=
    putAll_self l _ 0 a0 (fun i o ho d hd => by rw [Nat.zero_add]; simp only [ho, hd])
  have hrep : ∀ j b, (Array.replicate l.toArray.size false).getD j b = if j < l.length then false else b := fun j b => by
    simp only [Array.getD_eq_getD_getElem?, Array.getElem?_replicate]
    by_cases h : j < l.length
    · simp [h]
    · simp [h]
  have h1 := wpAny_left 0 hlen hd he (fun i o x _ ho hx => by have := steps.get i o x ho hx; rwa [Nat.zero_add] at this) fin l.toArray.size (Array.replicate l.toArray.size false) (fun j => match l[j]? with | some o => (match o.dst with | some d => a0.tmps.getD d undef | none => undef) | none => undef) w0.drew (by simp) (fun j o hj _ => by rw [hrep] at hj; split at hj <;> cases hj) (fun j o ho _ d hd => by simp only [ho, hd]) (fun j hj => by omega)
    (fun j x hj _ => by rw [hrep] at hj; split at hj <;> cases hj) ⟨rfl, rfl, rfl, Nat.le_refl _, fun _ _ => rfl⟩ (by
      refine Nat.le_trans (List.countP_le_length) ?_
      simp)
  rw [h0] at h1
  exact h1
end

/-! One operation that waits for all before it, and for which all behind it wait, may write. -/
def faded : Nat → List Left → List Left
  | _, [] => []
  | 0, ls => ls
  | n + 1, .is v :: ls => .is v :: faded n ls
  | n + 1, .has _ _ :: ls => .has (fun _ _ => True) (fun _ _ _ _ h => h) :: faded n ls
theorem faded_len : ∀ (n : Nat) (ls : List Left), (faded n ls).length = ls.length
  | _, [] => by cases ‹Nat› <;> rfl
  | 0, _ :: _ => rfl
  | n + 1, .is v :: ls => by simp [faded, faded_len n ls]
  | n + 1, .has _ _ :: ls => by simp [faded, faded_len n ls]
theorem faded_lt : ∀ {n i : Nat} {ls : List Left} {x : Left} {v : Value} {w w' : World}, (faded n ls)[i]? = some x → i < n → (∀ y, ls[i]? = some y → y.holds v w) → x.holds v w'
  | n, i, [], x, v, w, w', h, _, _ => by cases n <;> simp [faded] at h
  | n + 1, 0, .is u :: ls, x, v, w, w', h, _, hy => by simp [faded] at h; subst h; exact hy _ rfl
  | n + 1, 0, .has _ _ :: ls, x, v, w, w', h, _, hy => by simp [faded] at h; subst h; trivial
  | n + 1, i + 1, .is u :: ls, x, v, w, w', h, hi, hy => faded_lt (n := n) (i := i) (ls := ls) (by simpa [faded] using h) (by omega) (fun y h' => hy y (by simpa using h'))
  | n + 1, i + 1, .has _ _ :: ls, x, v, w, w', h, hi, hy => faded_lt (n := n) (i := i) (ls := ls) (by simpa [faded] using h) (by omega) (fun y h' => hy y (by simpa using h'))
theorem faded_ge : ∀ {n i : Nat} {ls : List Left}, n ≤ i → (faded n ls)[i]? = ls[i]?
  | 0, i, ls, _ => by cases ls <;> rfl
  | n + 1, i, [], _ => by simp [faded]
  | n + 1, 0, _ :: _, h => by omega
  | n + 1, i + 1, .is u :: ls, h => by simpa [faded] using faded_ge (n := n) (i := i) (ls := ls) (by omega)
  | n + 1, i + 1, .has _ _ :: ls, h => by simpa [faded] using faded_ge (n := n) (i := i) (ls := ls) (by omega)

def reachDown (l : List Oper) : Nat → List Nat → Bool
  | 0, _ => true
  | j + 1, S => S.contains j && reachDown l j (S ++ match l[j]? with | some o => depsOf o | none => [])
def allWait (n : Nat) (l : List Oper) : Bool := (l.drop (n + 1)).all fun o => (depsOf o).any fun k => decide (n ≤ k)
theorem reachDown_spec {l : List Oper} {p : Nat → Prop} (hc : ∀ j o, p j → l[j]? = some o → ∀ k ∈ depsOf o, p k) : ∀ (n : Nat) (S : List Nat), reachDown l n S = true → (∀ s ∈ S, p s) → ∀ j, j < n → p j
  | 0, _, _, _, j, h => by omega
  | n + 1, S, h, hS, j, hj => by
    simp only [reachDown, Bool.and_eq_true] at h
    have hn : p n := hS n (by simpa using h.1)
    by_cases e : j = n
    · subst e; exact hn
    · refine reachDown_spec hc n _ h.2 (fun s hs => ?_) j (by omega)
      rcases List.mem_append.1 hs with hs | hs
      · exact hS s hs
      · cases ho : l[n]? with
        | none => rw [ho] at hs; cases hs
        | some o => rw [ho] at hs; exact hc n o hn ho s hs

/-- What the writing operation is to show: nothing is asked of what its world keeps. -/
def LoudOk (P : Program) (ops : Array Oper) (Q : Exit → Act → World → Prop) (o : Oper) (l : Left) (w : World) (a : Act) : Prop :=
  ∀ K : Act → World → Prop, Shut (∀ v w', l.holds v w' → ∀ a', a' = a.put o.dst v → K a' w') → opStep P ops Q o K a w

section
variable {P : Program} {l : List Oper} {Q : Exit → Act → World → Prop} {a0 : Act} {w0 : World} {lf : List Left}

theorem wpAny_loud (n : Nat) (oN : Oper) (xN : Left) (hN : l[n]? = some oN) (hxN : lf[n]? = some xN) (hlen : l.length = lf.length) (hd : distinctDst l = true) (he : edgesDown 0 l = true) (hre : reachDown l n (depsOf oN) = true) (hw : allWait n l = true)
    (stepsA : ∀ (i : Nat) (o : Oper) (x : Left), i < n → l[i]? = some o → lf[i]? = some x → ∀ w, Below w0.heap.size w0 w → ∀ st, StepGoal i (depsOf o) st w (StepOk P l.toArray Q o x w) 0 l lf a0)
    (stepN : ∀ w, Below w0.heap.size w0 w → ∀ st, StepGoal n (List.range n) st w (LoudOk P l.toArray Q oN xN w) 0 l lf a0)
    (stepsB : ∀ (i : Nat) (o : Oper) (x : Left), n < i → l[i]? = some o → lf[i]? = some x → ∀ w st, StepGoal i (depsOf o) st w (StepOk P l.toArray Q o x w) 0 l (faded n lf) a0)
    (fin : ∀ w', FinAll Q l (faded n lf) a0 w') :
    ∀ (fuel : Nat) (L : Array Bool) (st : Nat → Value) (w : World), L.size = l.length → Closed l L → Fresh l a0 L st → (∀ j, n ≤ j → j < l.length → L.getD j true = false) →
      (∀ j x, L.getD j false = true → lf[j]? = some x → x.holds (st j) w) → Below w0.heap.size w0 w → (List.range l.length).countP (fun j => !L.getD j true) ≤ fuel → wpAny P .any l.toArray Q fuel L (putAll l st 0 a0) w := by
  have hnl : n < l.length := (List.getElem?_eq_some_iff.1 hN).1
  have least : ∀ (L : Array Bool), L.size = l.length → (∀ j, n ≤ j → j < l.length → L.getD j true = false) → Region.ready .any l.toArray L ≠ [] := fun L hs hun hr => by
    have key : ∀ j, j < l.length → L.getD j true = true := fun j => by
      induction j using Nat.strongRecOn with
      | _ j ih =>
        intro hj
        cases hc : L.getD j true with
        | true => rfl
        | false =>
          have hm : j ∈ Region.ready .any l.toArray L := mem_ready.2 ⟨l[j], by simp [hj], hc, fun k hk => by
            have hlt := edgesDown_get he (show l[j]? = some l[j] by simp [hj]) k hk
            rw [Nat.zero_add] at hlt
            have := ih k hlt (by omega)
            rw [Array.getD_eq_getD_getElem?, Array.getElem?_eq_getElem (by omega)] at this ⊢
            simpa using this⟩
          rw [hr] at hm; cases hm
    have := key n hnl
    rw [hun n (Nat.le_refl _) hnl] at this
    cases this
  intro fuel
  induction fuel with
  | zero =>
    intro L st w hs hcl hor hun hh hb hc
    have h0 := List.countP_eq_zero.1 (Nat.le_zero.1 hc) n (List.mem_range.2 hnl)
    rw [hun n (Nat.le_refl _) hnl] at h0
    simp at h0
  | succ fuel ih =>
    intro L st w hs hcl hor hun hh hb hc
    refine ⟨fun hr => absurd hr (least L hs hun), fun i hi => ?_⟩
    obtain ⟨o, h1, h2, h3⟩ := mem_ready.1 hi
    have hil : i < l.length := (List.getElem?_eq_some_iff.1 h1).1
    have hx : lf[i]? = some lf[i] := by simp
    have hcount : (List.range l.length).countP (fun j => !(L.setIfInBounds i true).getD j true) ≤ fuel := by
      have hlt := countP_lt (p := fun j => !L.getD j true) (p' := fun j => !(L.setIfInBounds i true).getD j true) (i := i) (fun j hj => by
        rw [getD_set (by omega)] at hj
        by_cases e : j = i
        · rw [if_pos e] at hj; cases hj
        · rw [if_neg e] at hj; exact hj) (by rw [h2]; rfl) (by rw [getD_set (by omega), if_pos rfl]; rfl) (List.range l.length) (List.mem_range.2 hil)
      omega
    rcases Nat.lt_trichotomy i n with hin | hin | hin
    · have hstep := stepGoal_use (i := i) l lf 0 a0 hlen hd (fun j hj i' x e hx' => ?_) (hor.waits hs hcl h2) (stepsA i o lf[i] hin h1 hx w hb st)
      · have key := hstep (fun a w' => wpAny P .any l.toArray Q fuel (L.setIfInBounds i true) a w') (fun v w' hb' hv a' ha' => ?_)
        · unfold wpOp
          simp only [List.getElem?_toArray, h1]
          unfold opStep at key
          split at key
          · rename_i hw; rw [if_pos hw]; exact .inl key
          · rename_i hw; rw [if_neg hw]; exact key
        · rw [ha', putAll_set hd h1]
          refine ih _ _ w' (by simpa using hs) (hcl.step (by omega) h1 h3) (hor.step (by omega)) (fun j hnj hjl => ?_) (fun j x hj hx' => ?_) (hb.trans (hb'.mono hb.size)) hcount
          · rw [getD_set (by omega), if_neg (by omega)]
            exact hun j hnj hjl
          · rw [getD_set (by omega)] at hj
            rw [Nat.zero_add]
            by_cases e : j = i
            · subst e
              rw [hx] at hx'
              injection hx' with hx'
              subst hx'
              rw [if_pos rfl]; exact hv
            · rw [if_neg e] at hj ⊢
              exact Left.on (hh j x hj hx') hb'
      · subst e
        rw [Nat.zero_add] at hj ⊢
        exact hh i' x (h3 i' hj) hx'
    · subst hin
      rw [hN] at h1
      injection h1 with h1
      subst h1
      have hall : ∀ j, j < i → L.getD j false = true := reachDown_spec (p := fun j => L.getD j false = true) (fun j o hj ho k hk => hcl j o hj ho k hk) i _ hre h3
      have hstep := stepGoal_use (i := i) l lf 0 a0 hlen hd (fun j hj i' x e hx' => ?_) (hor.waits hs hcl h2) (stepN w hb st)
      · have key := hstep (fun a w' => wpAny P .any l.toArray Q fuel (L.setIfInBounds i true) a w') (fun v w' hv a' ha' => ?_)
        · unfold wpOp
          simp only [List.getElem?_toArray, hN]
          unfold opStep at key
          split at key
          · rename_i hw; rw [if_pos hw]; exact .inl key
          · rename_i hw; rw [if_neg hw]; exact key
        · rw [ha', putAll_set hd hN]
          refine wpAny_left (w0 := w') (lf := faded i lf) (i + 1) (by rw [faded_len]; exact hlen) hd he (fun j o' x hj ho' hx' wz _ sz => ?_) (fun wz _ => fin wz) fuel _ _ w' (by simpa using hs) (hcl.step (by omega) hN h3) (hor.step (by omega)) (fun j hj => ?_) (fun j x hj hx' => ?_) (Below.refl _ _) hcount
          · rw [faded_ge (by omega)] at hx'
            exact stepsB j o' x (by omega) ho' hx' wz sz
          · rw [getD_set (by omega)]
            split
            · rfl
            · have := hall j (by omega)
              rw [Array.getD_eq_getD_getElem?, Array.getElem?_eq_getElem (by omega)] at this ⊢
              simpa using this
          · rw [Nat.zero_add]
            rcases Nat.lt_trichotomy j i with h | h | h
            · rw [if_neg (by omega)]
              exact faded_lt (w := w) hx' h (fun y hy => hh j y (hall j h) hy)
            · subst h
              rw [faded_ge (Nat.le_refl _), hxN] at hx'
              injection hx' with hx'
              subst hx'
              rw [if_pos rfl]; exact hv
            · rw [getD_set (by omega), if_neg (by omega)] at hj
              have hjl : j < l.length := by
                rcases Nat.lt_or_ge j l.length with h' | h'
                · exact h'
                · rw [Array.getD_eq_getD_getElem?, Array.getElem?_eq_none (by omega)] at hj; cases hj
              have := hun j (by omega) hjl
              rw [Array.getD_eq_getD_getElem?, Array.getElem?_eq_getElem (by omega)] at this hj
              simp at this hj
              rw [this] at hj; cases hj
      · subst e
        rw [Nat.zero_add] at hj ⊢
        exact hh i' x (hall i' (List.mem_range.1 hj)) hx'
    · have hk : ∃ k ∈ depsOf o, n ≤ k := by
        unfold allWait at hw
        rw [List.all_eq_true] at hw
        have := hw o (by
          rw [List.mem_iff_getElem?]
          exact ⟨i - (n + 1), by rw [List.getElem?_drop, show n + 1 + (i - (n + 1)) = i by omega]; exact h1⟩)
        rw [List.any_eq_true] at this
        obtain ⟨k, h4, h5⟩ := this
        exact ⟨k, h4, of_decide_eq_true h5⟩
      obtain ⟨k, hk, hnk⟩ := hk
      have hl := h3 k hk
      have hkl : k < l.length := by
        rcases Nat.lt_or_ge k l.length with h' | h'
        · exact h'
        · rw [Array.getD_eq_getD_getElem?, Array.getElem?_eq_none (by omega)] at hl; cases hl
      have := hun k hnk hkl
      rw [Array.getD_eq_getD_getElem?, Array.getElem?_eq_getElem (by omega)] at this hl
      simp at this hl
      rw [this] at hl; cases hl

/-- A region that draws its order, with one operation that writes: front, that operation, rest. -/
theorem region_loud (front rest : List Left) (xN : Left) {id : Nat} (n : Nat) (hf : front.length = n) (oN : Oper) (hN : l[n]? = some oN) (hm : P.follows .mixedOrders = true) (hlen : l.length = (front ++ xN :: rest).length) (hd : distinctDst l = true) (he : edgesDown 0 l = true)
    (hre : reachDown l n (depsOf oN) = true) (hw : allWait n l = true)
    (stepsA : AllSteps P l.toArray Q a0 (fun w => Below w0.heap.size w0 w) l (front ++ xN :: rest) 0 (l.take n) front)
    (stepN : ∀ w, Below w0.heap.size w0 w → ∀ st, StepGoal n (List.range n) st w (LoudOk P l.toArray Q oN xN w) 0 l (front ++ xN :: rest) a0)
    (stepsB : AllSteps P l.toArray Q a0 (fun _ => True) l (faded n (front ++ xN :: rest)) (n + 1) (l.drop (n + 1)) rest)
    (fin : ∀ w', FinAll Q l (faded n (front ++ xN :: rest)) a0 w') : (Code.region id l.toArray true).wp P Q a0 w0 := by
  refine wp_region_any hm ?_
  have h0 : putAll l (fun j => match l[j]? with | some o => (match o.dst with | some d => a0.tmps.getD d undef | none => undef) | none => undef) 0 a0 = a0 :=
    putAll_self l _ 0 a0 (fun i o ho d hd => by rw [Nat.zero_add]; simp only [ho, hd])
  have hrep : ∀ j b, (Array.replicate l.toArray.size false).getD j b = if j < l.length then false else b := fun j b => by
    simp only [Array.getD_eq_getD_getElem?, Array.getElem?_replicate]
    by_cases h : j < l.length
    · simp [h]
    · simp [h]
  have h1 := wpAny_loud (P := P) (Q := Q) (a0 := a0) (w0 := w0) n oN xN hN (by rw [List.getElem?_append_right (by omega)]; simp [hf]) hlen hd he hre hw
    (fun i o x hi ho hx => by
      have := stepsA.get i o x (by rw [List.getElem?_take, if_pos hi]; exact ho) (by rwa [List.getElem?_append_left (by omega)] at hx)
      rwa [Nat.zero_add] at this) stepN
    (fun i o x hi ho hx w st => by
      have := stepsB.get (i - (n + 1)) o x (by rw [List.getElem?_drop, show n + 1 + (i - (n + 1)) = i by omega]; exact ho) (by
        rw [List.getElem?_append_right (by omega)] at hx
        rw [show i - front.length = (i - (n + 1)) + 1 by omega] at hx
        simpa using hx) w trivial st
      rwa [show n + 1 + (i - (n + 1)) = i by omega] at this) fin l.toArray.size (Array.replicate l.toArray.size false) (fun j => match l[j]? with | some o => (match o.dst with | some d => a0.tmps.getD d undef | none => undef) | none => undef) w0.drew (by simp)
    (fun j o hj _ => by rw [hrep] at hj; split at hj <;> cases hj) (fun j o ho _ d hd => by simp only [ho, hd]) (fun j _ hj => by rw [hrep, if_pos hj])
    (fun j x hj _ => by rw [hrep] at hj; split at hj <;> cases hj) ⟨rfl, rfl, rfl, Nat.le_refl _, fun _ _ => rfl⟩ (by
      refine Nat.le_trans (List.countP_le_length) ?_
      simp)
  rw [h0] at h1
  exact h1
end

theorem below_row {w w' : World} {base : Nat} {e : TypeId} {size : Nat} {v : Value} {n : Nat} {xs : List Value} (h : w.ownsRow base e size v n xs) (hb : Below w.heap.size w w') : w'.ownsRow base e size v n xs := by
  refine h.kept (row := none) ⟨hb.os, hb.tape, hb.output, hb.size, fun i hi _ => hb.block i hi⟩ ?_
  cases v.ownBlock with
  | none => exact .inl rfl
  | some k => exact .inr (fun e => by cases e)

/-- The usual things left. -/
def leftReads {α : Type} (enc : α → Value) (xs : List α) : Left := .has (fun x w => Reads enc w x xs) (fun _ _ _ hb h => h.keep hb)
end Go.Proofs.Ytmcdmcnbnnfhnaa
