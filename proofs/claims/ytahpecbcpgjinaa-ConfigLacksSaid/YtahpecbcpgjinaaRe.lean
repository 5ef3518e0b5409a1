/-
  A region that draws its order and in which some operations write: the writing operations come up one after the other; what was shown of the memory before one of them is not known behind it.
-/
import Derived.Test.YtahpecbcpgjinaaRg
import Derived.Laws.AppendOwn
namespace Go.Proofs.Ytahpecbcpgjinaa
open Go.RowKit

/-- free: says nothing of the memory; on d: between the writing operations d - 1 and d; loud d: the writing operation number d. -/
inductive Tag where
  | free
  | on (d : Nat)
  | loud (d : Nat)
  deriving DecidableEq

def Left.none : Left := .has (fun _ _ => True) (fun _ _ _ _ h => h)
def Tag.keeps (c : Nat) : Tag → Left → Left
  | _, .is v => .is v
  | .free, .has _ _ => Left.none
  | .on d, .has p h => if d = c then .has p h else Left.none
  | .loud d, .has p h => if d + 1 = c then .has p h else Left.none
def kept (c : Nat) : List Tag → List Left → List Left
  | t :: ts, l :: ls => t.keeps c l :: kept c ts ls
  | _, _ => []
def Tag.drops : Left → Left
  | .is v => .is v
  | .has _ _ => Left.none

def clo (l : List Oper) : Nat → List Nat → List Nat
  | 0, S => S
  | j + 1, S => clo l j (if S.contains j then S ++ (match l[j]? with | some o => depsOf o | none => []) else S)
def cloOf (l : List Oper) (i : Nat) : List Nat := clo l i (match l[i]? with | some o => depsOf o | none => [])

/-- The tags fit the edges. -/
def fits (l : List Oper) (ts : List Tag) (lf : List Left) (C : Nat) : Bool :=
  decide (ts.length = l.length) && decide (lf.length = l.length) &&
  (List.range l.length).all (fun i => match ts[i]? with
    | some .free => match lf[i]? with | some (.is _) => true | _ => false
    | some (.on d) => decide (d = 0) || (cloOf l i).any (fun n => ts[n]? == some (.loud (d - 1)))
    | some (.loud d) => decide (d < C) && (decide (d = 0) || (cloOf l i).any (fun n => ts[n]? == some (.loud (d - 1)))) &&
        (List.range l.length).all (fun j => decide (j = i) || (!(ts[j]? == some (.loud d)) && (!(ts[j]? == some (.on d)) || (cloOf l i).contains j)))
    | none => false) &&
  (List.range C).all (fun d => (List.range l.length).any fun n => ts[n]? == some (.loud d))

theorem clo_spec {l : List Oper} {p : Nat → Prop} (hc : ∀ j o, p j → l[j]? = some o → ∀ k ∈ depsOf o, p k) : ∀ (n : Nat) (S : List Nat), (∀ s ∈ S, p s) → ∀ s ∈ clo l n S, p s
  | 0, _, h, s, hs => h s hs
  | n + 1, S, h, s, hs => by
    refine clo_spec hc n _ (fun s hs => ?_) s hs
    split at hs
    · rename_i hn
      rcases List.mem_append.1 hs with hs | hs
      · exact h s hs
      · cases ho : l[n]? with
        | none => rw [ho] at hs; cases hs
        | some o => rw [ho] at hs; exact hc n o (h n (by simpa using hn)) ho s hs
    · exact h s hs

def EpOk (P : Program) (ops : Array Oper) (Q : Exit → Act → World → Prop) (o : Oper) (t : Tag) (l : Left) (G : Nat → World → Prop) (w : World) (a : Act) : Prop :=
  match t with
  | .loud d => ∀ K : Act → World → Prop, Shut (∀ v w', G (d + 1) w' → l.holds v w' → ∀ a', a' = a.put o.dst v → K a' w') → opStep P ops Q o K a w
  | _ => ∀ K : Act → World → Prop, Shut (∀ v w', Below w.heap.size w w' → l.holds v w' → ∀ a', a' = a.put o.dst v → K a' w') → opStep P ops Q o K a w

def Tag.sees (G : Nat → World → Prop) (w : World) : Tag → Prop
  | .free => True
  | .on d => G d w
  | .loud d => G d w

def Tag.view (ts : List Tag) (lf : List Left) : Tag → List Left
  | .free => lf.map Tag.drops
  | .on d => kept d ts lf
  | .loud d => kept d ts lf

inductive EpSteps (P : Program) (ops : Array Oper) (Q : Exit → Act → World → Prop) (a0 : Act) (G : Nat → World → Prop) (all : List Oper) (ts : List Tag) (lf : List Left) : Nat → List Oper → List Tag → List Left → Prop
  | nil {k : Nat} : EpSteps P ops Q a0 G all ts lf k [] [] []
  | cons {k : Nat} {o : Oper} {t : Tag} {l : Left} {os : List Oper} {us : List Tag} {ls : List Left} : (∀ w, t.sees G w → ∀ st, StepGoal k (depsOf o) st w (EpOk P ops Q o t l G w) 0 all (t.view ts lf) a0) → EpSteps P ops Q a0 G all ts lf (k + 1) os us ls → EpSteps P ops Q a0 G all ts lf k (o :: os) (t :: us) (l :: ls)

theorem kept_len (c : Nat) : ∀ (ts : List Tag) (ls : List Left), ts.length = ls.length → (kept c ts ls).length = ls.length
  | [], [], _ => rfl
  | t :: ts, l :: ls, h => by simp only [kept, List.length_cons]; rw [kept_len c ts ls (by simpa using h)]
theorem kept_get (c : Nat) : ∀ {ts : List Tag} {ls : List Left} {i : Nat} {t : Tag} {x : Left}, ts[i]? = some t → ls[i]? = some x → (kept c ts ls)[i]? = some (t.keeps c x)
  | t :: ts, l :: ls, 0, _, _, h, h' => by simp at h h'; subst h h'; rfl
  | t :: ts, l :: ls, i + 1, _, _, h, h' => by simp only [kept, List.getElem?_cons_succ]; exact kept_get c (by simpa using h) (by simpa using h')
  | [], _, i, _, _, h, _ => by simp at h
  | t :: ts, [], i, _, _, _, h' => by simp at h'
theorem drops_holds {l : Left} {x : Value} {w w' : World} (h : l.holds x w) : (Tag.drops l).holds x w' := by cases l with | is v => exact h | has p hp => trivial
theorem keeps_drops {l : Left} {c : Nat} {t : Tag} {x : Value} {w w' : World} (h : (t.keeps c l).holds x w) : (Tag.drops l).holds x w' := by
  cases l with
  | is v => cases t <;> exact h
  | has p hp => trivial

section
variable {P : Program} {l : List Oper} {Q : Exit → Act → World → Prop} {a0 : Act} {G : Nat → World → Prop} {ts : List Tag} {lf : List Left} {C : Nat}

theorem EpSteps.get {ops : Array Oper} {all : List Oper} : ∀ {k : Nat} {os : List Oper} {us : List Tag} {ls : List Left}, EpSteps P ops Q a0 G all ts lf k os us ls →
    ∀ (i : Nat) (o : Oper) (t : Tag) (x : Left), os[i]? = some o → us[i]? = some t → ls[i]? = some x → ∀ w, t.sees G w → ∀ st, StepGoal (k + i) (depsOf o) st w (EpOk P ops Q o t x G w) 0 all (t.view ts lf) a0
  | _, _, _, _, .nil, i, o, t, x, h, _, _ => by simp at h
  | _, _, _, _, .cons h0 hs, 0, o, t, x, h, h', h'' => by
    simp at h h' h''
    subst h h' h''
    exact h0
  | k, _, _, _, .cons h0 hs, i + 1, o, t, x, h, h', h'' => by
    have := hs.get i o t x (by simpa using h) (by simpa using h') (by simpa using h'')
    rwa [show k + 1 + i = k + (i + 1) by omega] at this

/-- How far the writing operations have come. -/
structure At (ts : List Tag) (L : Array Bool) (c : Nat) : Prop where
  some : ∀ d, d < c → ∃ n, ts[n]? = some (.loud d) ∧ L.getD n false = true
  less : ∀ n d, ts[n]? = Option.some (.loud d) → L.getD n false = true → d < c

theorem fits_spec (h : fits l ts lf C = true) : ts.length = l.length ∧ lf.length = l.length ∧
    (∀ i d, i < l.length → (ts[i]? = some (.on d) ∨ ts[i]? = some (.loud d)) → d = 0 ∨ ∃ n ∈ cloOf l i, ts[n]? = some (.loud (d - 1))) ∧
    (∀ i d, i < l.length → ts[i]? = some (.loud d) → d < C ∧ ∀ j, j < l.length → j ≠ i → ts[j]? ≠ some (.loud d) ∧ (ts[j]? = some (.on d) → j ∈ cloOf l i)) ∧
    (∀ i, i < l.length → ts[i]? = some .free → ∃ v, lf[i]? = some (.is v)) ∧ (∀ d, d < C → ∃ n, n < l.length ∧ ts[n]? = some (.loud d)) := by
  unfold fits at h
  simp only [Bool.and_eq_true, decide_eq_true_eq, List.all_eq_true, List.mem_range] at h
  obtain ⟨⟨⟨h1, h2⟩, h3⟩, h4⟩ := h
  refine ⟨h1, h2, ?_, ?_, ?_, ?_⟩
  · intro i d hi ht
    have := h3 i hi
    rcases ht with ht | ht
    · rw [ht] at this
      simp only [Bool.or_eq_true, decide_eq_true_eq, List.any_eq_true, beq_iff_eq] at this
      exact this
    · rw [ht] at this
      simp only [Bool.and_eq_true, Bool.or_eq_true, decide_eq_true_eq, List.any_eq_true, beq_iff_eq] at this
      exact this.1.2
  · intro i d hi ht
    have := h3 i hi
    rw [ht] at this
    simp only [Bool.and_eq_true, Bool.or_eq_true, decide_eq_true_eq, List.all_eq_true, List.mem_range, Bool.not_eq_true', beq_eq_false_iff_ne, List.contains_iff_mem] at this
    refine ⟨this.1.1, fun j hj hne => ?_⟩
    rcases this.2 j hj with h | h
    · exact absurd h hne
    · refine ⟨h.1, fun ho => ?_⟩
      rcases h.2 with h | h
      · exact absurd ho h
      · exact h
  · intro i hi ht
    have := h3 i hi
    rw [ht] at this
    cases hx : lf[i]? with
    | none => rw [hx] at this; simp at this
    | some x =>
      rw [hx] at this
      cases x with
      | is v => exact ⟨v, rfl⟩
      | has p hp => simp at this
  · intro d hd
    have := h4 d hd
    simp only [List.any_eq_true, List.mem_range, beq_iff_eq] at this
    exact this

theorem wpAny_ep (hfit : fits l ts lf C = true) (hd : distinctDst l = true) (he : edgesDown 0 l = true) (hG : ∀ c w w', G c w → Below w.heap.size w w' → G c w')
    (steps : EpSteps P l.toArray Q a0 G l ts lf 0 l ts lf) (fin : ∀ w', G C w' → FinAll Q l (kept C ts lf) a0 w') :
    ∀ (fuel : Nat) (L : Array Bool) (st : Nat → Value) (w : World) (c : Nat), L.size = l.length → Closed l L → Fresh l a0 L st → At ts L c → (∀ j x, L.getD j false = true → (kept c ts lf)[j]? = some x → x.holds (st j) w) → G c w →
      (List.range l.length).countP (fun j => !L.getD j true) ≤ fuel → wpAny P .any l.toArray Q fuel L (putAll l st 0 a0) w := by
  obtain ⟨hts, hlf, f1, f2, f3, f4⟩ := fits_spec hfit
  have hkl : ∀ c, l.length = (kept c ts lf).length := fun c => by rw [kept_len c ts lf (by omega)]; omega
  have toF : ∀ (L : Array Bool) j, L.size = l.length → j < l.length → L.getD j true = true → L.getD j false = true := fun L j hs hj h => by
    rw [Array.getD_eq_getD_getElem?, Array.getElem?_eq_getElem (by omega)] at h ⊢
    simpa using h
  have contra : ∀ {L : Array Bool} {j : Nat}, L.getD j true = false → L.getD j false = true → False := fun h h' => by
    rw [getD_tf h'] at h; cases h
  have done : ∀ (L : Array Bool) (st : Nat → Value) (w : World) (c : Nat), L.size = l.length → At ts L c → (∀ j x, L.getD j false = true → (kept c ts lf)[j]? = some x → x.holds (st j) w) → G c w →
      (∀ j, j < l.length → L.getD j true = true) → Q .normal (putAll l st 0 a0) w := fun L st w c hs hat hh hg hall => by
    have hc : c = C := by
      rcases Nat.lt_trichotomy c C with h | h | h
      · obtain ⟨n, hn, ht⟩ := f4 c h
        have := hat.less n c ht (toF L n hs hn (hall n hn))
        omega
      · exact h
      · obtain ⟨n, ht, hn⟩ := hat.some C h
        have hnl : n < l.length := by rw [← hts]; exact (List.getElem?_eq_some_iff.1 ht).1
        have := (f2 n C hnl ht).1
        omega
    subst hc
    refine finAll_use l (kept c ts lf) 0 a0 (hkl c) (fun i x hx => ?_) (fin w hg)
    have hi : i < l.length := by rw [hkl c]; exact (List.getElem?_eq_some_iff.1 hx).1
    rw [Nat.zero_add]
    exact hh i x (toF L i hs hi (hall i hi)) hx
  have least : ∀ (L : Array Bool), L.size = l.length → Region.ready .any l.toArray L = [] → ∀ j, j < l.length → L.getD j true = true := fun L hs hr j => by
    induction j using Nat.strongRecOn with
    | _ j ih =>
      intro hj
      cases hc : L.getD j true with
      | true => rfl
      | false =>
        have hm : j ∈ Region.ready .any l.toArray L := mem_ready.2 ⟨l[j], by simp [hj], hc, fun k hk => by
          have hlt := edgesDown_get he (show l[j]? = some l[j] by simp [hj]) k hk
          rw [Nat.zero_add] at hlt
          exact toF L k hs (by omega) (ih k hlt (by omega))⟩
        rw [hr] at hm; cases hm
  intro fuel
  induction fuel with
  | zero =>
    intro L st w c hs hcl hor hat hh hg hct
    have hall : ∀ j, j < l.length → L.getD j true = true := fun j hj => by
      have h0 := List.countP_eq_zero.1 (Nat.le_zero.1 hct) j (List.mem_range.2 hj)
      simpa using h0
    refine ⟨?_, done L st w c hs hat hh hg hall⟩
    refine List.eq_nil_iff_forall_not_mem.2 fun i hi => ?_
    obtain ⟨o, h1, h2, _⟩ := mem_ready.1 hi
    rw [hall i (List.getElem?_eq_some_iff.1 h1).1] at h2
    cases h2
  | succ fuel ih =>
    intro L st w c hs hcl hor hat hh hg hct
    refine ⟨fun hr => done L st w c hs hat hh hg (least L hs hr), fun i hi => ?_⟩
    obtain ⟨o, h1, h2, h3⟩ := mem_ready.1 hi
    have hil : i < l.length := (List.getElem?_eq_some_iff.1 h1).1
    have hx : lf[i]? = some (lf[i]'(by omega)) := List.getElem?_eq_getElem (by omega)
    have ht : ts[i]? = some (ts[i]'(by omega)) := List.getElem?_eq_getElem (by omega)
    generalize lf[i]'(by omega) = x at hx
    generalize ts[i]'(by omega) = t at ht
    have hcloI : ∀ n ∈ cloOf l i, L.getD n false = true := by
      unfold cloOf
      rw [h1]
      exact clo_spec (p := fun j => L.getD j false = true) (fun j o hj ho k hk => hcl j o hj ho k hk) i _ h3
    have hcloN : ∀ j, L.getD j false = true → ∀ n ∈ cloOf l j, L.getD n false = true := fun j hj => by
      unfold cloOf
      cases ho : l[j]? with
      | none => exact clo_spec (p := fun j => L.getD j false = true) (fun j o hj ho k hk => hcl j o hj ho k hk) j _ (by simp)
      | some o' => exact clo_spec (p := fun j => L.getD j false = true) (fun j o hj ho k hk => hcl j o hj ho k hk) j _ (hcl j o' hj ho)
    have hcount : (List.range l.length).countP (fun j => !(L.setIfInBounds i true).getD j true) ≤ fuel := by
      have hlt := countP_lt (p := fun j => !L.getD j true) (p' := fun j => !(L.setIfInBounds i true).getD j true) (i := i) (fun j hj => by
        rw [getD_set (by omega)] at hj
        by_cases e : j = i
        · rw [if_pos e] at hj; cases hj
        · rw [if_neg e] at hj; exact hj) (by rw [h2]; rfl) (by rw [getD_set (by omega), if_pos rfl]; rfl) (List.range l.length) (List.mem_range.2 hil)
      omega
    have run : ∀ {K : Act → World → Prop} {a : Act}, opStep P l.toArray Q o K a w → wpOp P l.toArray Q i K a w := fun key => by
      unfold wpOp
      simp only [List.getElem?_toArray, h1]
      unfold opStep at key
      split at key
      · rename_i hw; rw [if_pos hw]; exact .inl key
      · rename_i hw; rw [if_neg hw]; exact key
    have hst := fun hs => steps.get i o t x h1 ht hx w hs st
    rw [Nat.zero_add] at hst
    -- a quiet operation
    have quiet : (∀ d, t ≠ .loud d) → (t.keeps c x = x) → (∀ K : Act → World → Prop, Shut (∀ v w', Below w.heap.size w w' → x.holds v w' → ∀ a', a' = (putAll l st 0 a0).put o.dst v → K a' w') → opStep P l.toArray Q o K (putAll l st 0 a0) w) →
        wpOp P l.toArray Q i (fun a w => wpAny P .any l.toArray Q fuel (L.setIfInBounds i true) a w) (putAll l st 0 a0) w := fun hnl hkx key => by
      refine run (key _ fun v w' hb' hv a' ha' => ?_)
      rw [ha', putAll_set hd h1]
      refine ih _ _ w' c (by simpa using hs) (hcl.step (by omega) h1 h3) (hor.step (by omega)) ⟨fun d hdc => ?_, fun n d hn hl => ?_⟩ (fun j y hj hy => ?_) (hG c w w' hg hb') hcount
      · obtain ⟨n, h, h'⟩ := hat.some d hdc
        refine ⟨n, h, ?_⟩
        rw [getD_set (by omega)]
        split
        · rfl
        · exact h'
      · rw [getD_set (by omega)] at hl
        by_cases e : n = i
        · subst e
          rw [ht] at hn
          injection hn with hn
          exact absurd hn (hnl d)
        · rw [if_neg e] at hl
          exact hat.less n d hn hl
      · rw [getD_set (by omega)] at hj
        rw [Nat.zero_add]
        by_cases e : j = i
        · subst e
          rw [kept_get c ht hx] at hy
          injection hy with hy
          subst hy
          rw [if_pos rfl, hkx]; exact hv
        · rw [if_neg e] at hj ⊢
          exact Left.on (hh j y hj hy) hb'
    have view : ∀ d, d = c → (∀ j ∈ depsOf o, ∀ (i : Nat) (y : Left), j = 0 + i → (kept d ts lf)[i]? = some y → y.holds (st j) w) := fun d hdc j hj i' y e hy => by
      subst hdc e
      rw [Nat.zero_add] at hj ⊢
      exact hh i' y (h3 i' hj) hy
    have atc : ∀ d, (t = .on d ∨ t = .loud d) → d = c := fun d hdt => by
      have hlow : d ≤ c := by
        rcases f1 i d hil (by rcases hdt with h | h <;> rw [ht, h] <;> simp) with h | ⟨n, hn, htn⟩
        · omega
        · have := hat.less n (d - 1) htn (hcloI n hn)
          omega
      rcases Nat.lt_or_ge d c with h | h
      · obtain ⟨n, htn, hn⟩ := hat.some d h
        have hnl : n < l.length := by rw [← hts]; exact (List.getElem?_eq_some_iff.1 htn).1
        by_cases e : n = i
        · subst e; exact absurd hn (fun h => contra h2 h)
        · obtain ⟨_, h5⟩ := f2 n d hnl htn
          obtain ⟨h6, h7⟩ := h5 i hil (fun e' => e e'.symm)
          rcases hdt with hdt | hdt
          · exact (contra h2 (hcloN n hn i (h7 (by rw [ht, hdt])))).elim
          · exact absurd (by rw [ht, hdt]) h6
      · omega
    cases t with
    | free =>
      obtain ⟨v, hv⟩ := f3 i hil ht
      rw [hx] at hv
      injection hv with hv
      subst hv
      refine quiet (fun d h => by cases h) rfl ?_
      refine stepGoal_use (i := i) l (lf.map Tag.drops) 0 a0 (by simp; omega) hd (fun j hj i' y e hy => ?_) (hor.waits hs hcl h2) (hst trivial)
      subst e
      rw [Nat.zero_add] at hj ⊢
      rw [List.getElem?_map] at hy
      cases hz : lf[i']? with
      | none => rw [hz] at hy; simp at hy
      | some z =>
        rw [hz] at hy
        simp at hy
        subst hy
        have hi'l : i' < l.length := by rw [← hlf]; exact (List.getElem?_eq_some_iff.1 hz).1
        have htz : ts[i']? = some (ts[i']'(by omega)) := List.getElem?_eq_getElem (by omega)
        exact keeps_drops (hh i' _ (h3 i' hj) (kept_get c htz hz))
    | on d =>
      have hdc := atc d (.inl rfl)
      refine quiet (fun d h => by cases h) (by subst hdc; cases x <;> simp [Tag.keeps]) ?_
      exact stepGoal_use (i := i) l (kept d ts lf) 0 a0 (hkl d) hd (view d hdc) (hor.waits hs hcl h2) (hst (by subst hdc; exact hg))
    | loud d =>
      have hdc := atc d (.inr rfl)
      have key := stepGoal_use (i := i) l (kept d ts lf) 0 a0 (hkl d) hd (view d hdc) (hor.waits hs hcl h2) (hst (by subst hdc; exact hg))
      subst hdc
      refine run (key _ fun v w' hg' hv a' ha' => ?_)
      rw [ha', putAll_set hd h1]
      refine ih _ _ w' (d + 1) (by simpa using hs) (hcl.step (by omega) h1 h3) (hor.step (by omega)) ⟨fun e hec => ?_, fun n e hn hl => ?_⟩ (fun j y hj hy => ?_) hg' hcount
      · by_cases hed : e = d
        · subst hed
          exact ⟨i, ht, by rw [getD_set (by omega), if_pos rfl]⟩
        · obtain ⟨n, h, h'⟩ := hat.some e (by omega)
          refine ⟨n, h, ?_⟩
          rw [getD_set (by omega)]
          split
          · rfl
          · exact h'
      · rw [getD_set (by omega)] at hl
        by_cases e' : n = i
        · subst e'
          rw [ht] at hn
          injection hn with hn
          injection hn with hn
          omega
        · rw [if_neg e'] at hl
          have := hat.less n e hn hl
          omega
      · rw [getD_set (by omega)] at hj
        rw [Nat.zero_add]
        by_cases e : j = i
        · subst e
          rw [kept_get (d + 1) ht hx] at hy
          injection hy with hy
          subst hy
          rw [if_pos rfl]
          cases x with
          | is u => exact hv
          | has p hp => simpa [Tag.keeps] using hv
        · rw [if_neg e] at hj ⊢
          have hjl : j < l.length := by rw [hkl (d + 1)]; exact (List.getElem?_eq_some_iff.1 hy).1
          have hxj : lf[j]? = some (lf[j]'(by omega)) := List.getElem?_eq_getElem (by omega)
          have htj : ts[j]? = some (ts[j]'(by omega)) := List.getElem?_eq_getElem (by omega)
          generalize lf[j]'(by omega) = xj at hxj
          generalize ts[j]'(by omega) = tj at htj
          rw [kept_get (d + 1) htj hxj] at hy
          injection hy with hy
          subst hy
          cases xj with
          | is u =>
            have := hh j _ hj (kept_get d htj hxj)
            cases tj <;> exact this
          | has p hp =>
            cases tj with
            | free => trivial
            | on e' =>
              by_cases h5 : e' = d + 1
              · exfalso
                subst h5
                rcases f1 j (d + 1) hjl (.inl htj) with h | ⟨n, hn, htn⟩
                · omega
                · have hln := hcloN j hj n hn
                  have := hat.less n _ htn hln
                  omega
              · simp only [Tag.keeps, if_neg h5]; trivial
            | loud e' =>
              by_cases h5 : e' + 1 = d + 1
              · exfalso
                have h6 : e' = d := by omega
                subst h6
                exact (f2 i e' hil ht).2 j hjl e |>.1 htj
              · simp only [Tag.keeps, if_neg h5]; trivial

/-- A region that draws its order, with writing operations. -/
theorem region_ep (ts : List Tag) (lf : List Left) (C : Nat) (G : Nat → World → Prop) {id : Nat} {w0 : World} (hm : P.follows .mixedOrders = true) (hfit : fits l ts lf C = true) (hd : distinctDst l = true) (he : edgesDown 0 l = true)
    (h0G : G 0 w0) (hG : ∀ c w w', G c w → Below w.heap.size w w' → G c w') (steps : EpSteps P l.toArray Q a0 G l ts lf 0 l ts lf) (fin : ∀ w', G C w' → FinAll Q l (kept C ts lf) a0 w') : (Code.region id l.toArray true).wp P Q a0 w0 := by
  refine wp_region_any hm ?_
  have h0 : putAll l (fun j => match l[j]? with | some o => (match o.dst with | some d => a0.tmps.getD d undef | none => undef) | none => undef) 0 a0 = a0 :=
    putAll_self l _ 0 a0 (fun i o ho d hd => by rw [Nat.zero_add]; simp only [ho, hd])
  have hrep : ∀ j b, (Array.replicate l.toArray.size false).getD j b = if j < l.length then false else b := fun j b => by
    simp only [Array.getD_eq_getD_getElem?, Array.getElem?_replicate]
    by_cases h : j < l.length
    · simp [h]
    · simp [h]
  have hno : ∀ j, (Array.replicate l.toArray.size false).getD j false = true → False := fun j hj => by rw [hrep] at hj; split at hj <;> cases hj
  have h1 := wpAny_ep hfit hd he hG steps fin l.toArray.size (Array.replicate l.toArray.size false) (fun j => match l[j]? with | some o => (match o.dst with | some d => a0.tmps.getD d undef | none => undef) | none => undef) w0.drew 0 (by simp)
    (fun j o hj _ => (hno j hj).elim) (fun j o ho _ d hd => by simp only [ho, hd]) ⟨fun d hd => by omega, fun n d _ hn => (hno n hn).elim⟩
    (fun j x hj _ => (hno j hj).elim) (hG 0 w0 w0.drew h0G ⟨rfl, rfl, rfl, Nat.le_refl _, fun _ _ => rfl⟩) (by
      refine Nat.le_trans (List.countP_le_length) ?_
      simp)
  rw [h0] at h1
  exact h1
end
/-- append to an empty slice that the region made: nothing that stood is touched. -/
theorem wp_append_fresh {P : Program} {o : Oper} {a : Act} {w : World} {K : Act → World → Prop} {Q : Exit → Act → World → Prop} (s x : Operand) (t : TypeId)
    (ho : o.op = .call { callee := .builtin .append, args := #[s, x], argTypes := #[t, t] })
    (base : Nat) (e : TypeId) (i : TypeInfo) (z : Value) (size bytes : Nat) (ht : P.underlying t = some (.slice e)) (hi : P.info? e = some i) (hz : i.zero = some z)
    (hsize : i.size = size) (hby : i.bytes = bytes) (hzs : z.cells.size = size) (g : Nat) (hs : a.eval s = .slice (some ⟨g, 0, none⟩) 0 0) (hg : w.heap[g]? = some (.cells #[] e (0, 0))) (hbg : base ≤ g)
    (ad : Addr) (m c : Nat) (news : List Value) (hx : a.eval x = .slice (some ad) m c) (hl : news.length = m * size) (hnews : ∀ j u, news[j]? = some u → w.cell? (ad.add j) = some u) (h1 : ∀ u ∈ news, u.oneCell' = true)
    (h63 : m ≤ maxLen) (hbytes : m * bytes ≤ 140737488355328)
    (h : ∀ v' w', w'.ownsRow base e size v' m news → Below w.heap.size w w' → K (a.put o.dst v') w') : o.wp P a w K Q := by
  subst hsize
  subst hby
  have hgl : g < w.heap.size := by
    rcases Nat.lt_or_ge g w.heap.size with h' | h'
    · exact h'
    · rw [Array.getElem?_eq_none h'] at hg; cases hg
  have hsmall : m ≤ 9223372036854775807 := by simpa [maxLen] using h63
  have key : ∃ v' w', (Builtin.append_ #[t, t] o.type #[.slice (some ⟨g, 0, none⟩) 0 0, .slice (some ad) m c]).run P w = .ok v' w' ∧ w'.ownsRow base e i.size v' m news ∧ Below w.heap.size w w' := by
    by_cases hm : m = 0
    · subst hm
      have hn : news = [] := List.eq_nil_of_length_eq_zero (by simpa using hl)
      subst hn
      have hr := run_append_room (P := P) w t o.type e i ht hi g 0 0 #[] hg ad 0 c [] (by simp) (by simp) (by simp) (by omega) (by simp)
      simp only [Nat.add_zero] at hr
      refine ⟨_, _, hr, ?_, rfl, rfl, rfl, by simp, fun k _ => ?_⟩
      · have hh := setRow_heap w g #[] #[] e (0, 0) hg
        exact ⟨by simp, .inr ⟨g, 0, #[], rfl, hbg, by simpa using hh, Nat.le_refl _, by simp [maxLen], by simp, by simp⟩⟩
      · by_cases hk : k = g
        · subst hk
          rw [hg]
          simpa using setRow_heap w k #[] #[] e (0, 0) hg
        · exact setRow_other w g k _ hk
    · have hr := run_append_grow (P := P) w t o.type e i z ht hi hz ⟨g, 0, none⟩ 0 0 [] (by simp) (by simp) ad m c news hl hnews (by omega) (by omega) (by rw [Nat.zero_add, nextslicecap_zero (by omega)]; omega)
      simp only [Nat.zero_add, List.nil_append, Array.empty_append] at hr
      have hge := grownCap_ge w m 0 e
      have hcm : grownCap w m 0 e ≤ maxLen := grownCap_le_maxLen w m 0 e h63
      refine ⟨_, _, hr, ⟨hl, .inr ⟨w.heap.size, _, _, rfl, by omega, heap_alloc_new w.drew _, hge, hcm, ?_, ?_⟩⟩, rfl, rfl, rfl, by simp, fun k hk => Below.heap_alloc w.drew _ k hk⟩
      · simp only [Array.size_append, List.size_toArray, size_zeroCells, hzs, hl, ← Nat.add_mul]
        congr 1
        omega
      · simp only [Array.toList_append]
        rw [← hl]
        simp
  obtain ⟨v', w', hr, h2, h3⟩ := key
  unfold Oper.wp execOp
  rw [ho]
  simp only [resolve, invoke, builtin, Sem.run_bind, Sem.run_pure, Result.andThen_ok, List.map_toArray, List.map_cons, List.map_nil, hs, hx, hr]
  exact h v' w' h2 h3
end Go.Proofs.Ytahpecbcpgjinaa
