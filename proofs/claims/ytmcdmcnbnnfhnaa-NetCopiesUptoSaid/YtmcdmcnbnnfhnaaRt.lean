/-
  A region that draws its order: the first n operations in any order, each shown once; those behind them wait for all that stand before, and are walked one after the other.
-/
import Derived.Test.YtmcdmcnbnnfhnaaRg
namespace Go.Proofs.Ytmcdmcnbnnfhnaa
open Go.RowKit

/-- From operation n on each waits for all before it. -/
def tailWaits (n : Nat) (l : List Oper) : Bool := (List.range l.length).all fun k => decide (k < n) || (match l[k]? with | some o => (List.range k).all fun j => (depsOf o).contains j | none => true)
theorem tailWaits_spec {n : Nat} {l : List Oper} (h : tailWaits n l = true) : ∀ k o, n ≤ k → l[k]? = some o → ∀ j, j < k → j ∈ depsOf o := by
  intro k o hk ho j hj
  unfold tailWaits at h
  rw [List.all_eq_true] at h
  have := h k (List.mem_range.2 (List.getElem?_eq_some_iff.1 ho).1)
  rw [ho, Bool.or_eq_true, decide_eq_true_eq] at this
  rcases this with h1 | h1
  · omega
  · rw [List.all_eq_true] at h1
    simpa using h1 j (List.mem_range.2 hj)
/-- What a slot holds that nothing has filled. -/
def ownAt (a0 : Act) (o : Oper) : Value := match o.dst with | some d => a0.tmps.getD d undef | none => undef

section
variable {P : Program} {l : List Oper} {Q : Exit → Act → World → Prop} {a0 : Act} {w0 : World} {lf : List Left} {n : Nat}

theorem wpAny_forced (hw : ∀ k o, n ≤ k → l[k]? = some o → ∀ j, j < k → j ∈ depsOf o) (he : edgesDown 0 l = true) : ∀ (fuel k : Nat) (L : Array Bool) (a : Act) (w : World), n ≤ k → k ≤ l.length → L.size = l.length →
    (∀ j b, j < l.length → L.getD j b = decide (j < k)) → l.length - k ≤ fuel → wpList P l.toArray Q (l.drop k) a w → wpAny P .any l.toArray Q fuel L a w := by
  intro fuel
  have ends : ∀ (k : Nat) (L : Array Bool) (a : Act) (w : World), k = l.length → wpList P l.toArray Q (l.drop k) a w → Q .normal a w := fun k L a w hk h => by
    subst hk
    rw [List.drop_length] at h
    exact h
  have none_ready : ∀ (L : Array Bool), (∀ j b, j < l.length → L.getD j b = decide (j < l.length)) → Region.ready .any l.toArray L = [] := fun L hL => by
    refine List.eq_nil_iff_forall_not_mem.2 fun i hi => ?_
    obtain ⟨o, h1, h2, _⟩ := mem_ready.1 hi
    have hil := (List.getElem?_eq_some_iff.1 h1).1
    rw [hL i true hil] at h2
    simp [hil] at h2
  induction fuel with
  | zero =>
    intro k L a w hnk hk hs hL hf h
    have hkl : k = l.length := by omega
    refine ⟨none_ready L (by rw [hkl] at hL; exact hL), ends k L a w hkl h⟩
  | succ fuel ih =>
    intro k L a w hnk hk hs hL hf h
    refine ⟨fun hr => ?_, fun i hi => ?_⟩
    · refine ends k L a w ?_ h
      rcases Nat.lt_or_ge k l.length with hlt | hge
      · exfalso
        have hm : k ∈ Region.ready .any l.toArray L := mem_ready.2 ⟨l[k], by simp [hlt], by rw [hL k true hlt]; simp, fun j hj => by
          have hjk := edgesDown_get he (show l[k]? = some l[k] by simp [hlt]) j hj
          rw [Nat.zero_add] at hjk
          rw [hL j false (by omega)]; simpa using hjk⟩
        rw [hr] at hm; cases hm
      · omega
    · obtain ⟨o, h1, h2, h3⟩ := mem_ready.1 hi
      have hil := (List.getElem?_eq_some_iff.1 h1).1
      rw [hL i true hil] at h2
      have hki : k ≤ i := by simpa using h2
      have hik : i = k := by
        rcases Nat.lt_or_ge k i with hlt | hge
        · have := h3 k (hw i o (by omega) h1 k hlt)
          rw [hL k false (by omega)] at this
          simp at this
        · omega
      subst hik
      have hL' : ∀ j b, j < l.length → (L.setIfInBounds i true).getD j b = decide (j < i + 1) := fun j b hj => by
        rw [getD_set (by omega)]
        by_cases e : j = i
        · rw [if_pos e]; subst e; simp
        · rw [if_neg e, hL j b hj]; simp; omega
      have hd : l.drop i = o :: l.drop (i + 1) := by
        rw [List.drop_eq_getElem_cons hil]
        rw [List.getElem?_eq_getElem hil] at h1
        injection h1 with h1
        rw [h1]
      rw [hd] at h
      unfold wpOp
      simp only [List.getElem?_toArray, h1]
      unfold wpList at h
      split at h
      · rename_i hwant
        rw [if_pos hwant]
        rcases h with h | h
        · exact .inl (Oper.wp_mono (fun a w h => ih (i + 1) _ a w (by omega) (by omega) (by simpa using hs) hL' (by omega) h) h)
        · exact .inr h
      · rename_i hwant
        rw [if_neg hwant]
        exact ih (i + 1) _ _ _ (by omega) (by omega) (by simpa using hs) hL' (by omega) h

theorem wpAny_tail (hlen : l.length = lf.length) (hnl : n ≤ l.length) (hd : distinctDst l = true) (he : edgesDown 0 l = true) (hw : ∀ k o, n ≤ k → l[k]? = some o → ∀ j, j < k → j ∈ depsOf o)
    (hown : lf.drop n = (l.drop n).map fun o => .is (ownAt a0 o))
    (steps : ∀ (i : Nat) (o : Oper) (x : Left), i < n → l[i]? = some o → lf[i]? = some x → ∀ w, Below w0.heap.size w0 w → ∀ st, StepGoal i (depsOf o) st w (StepOk P l.toArray Q o x w) 0 l lf a0)
    (fin : ∀ w', Below w0.heap.size w0 w' → FinAll (fun _ a w => wpList P l.toArray Q (l.drop n) a w) l lf a0 w') :
    ∀ (fuel : Nat) (L : Array Bool) (st : Nat → Value) (w : World), L.size = l.length → Closed l L → Fresh l a0 L st → (∀ j b, n ≤ j → j < l.length → L.getD j b = false) → (∀ j o, n ≤ j → l[j]? = some o → st j = ownAt a0 o) →
      (∀ j x, L.getD j false = true → lf[j]? = some x → x.holds (st j) w) → Below w0.heap.size w0 w →
      (List.range l.length).countP (fun j => !L.getD j true) ≤ fuel → wpAny P .any l.toArray Q fuel L (putAll l st 0 a0) w := by
  intro fuel
  have done : ∀ (fuel : Nat) (L : Array Bool) (st : Nat → Value) (w : World), L.size = l.length → (∀ j b, n ≤ j → j < l.length → L.getD j b = false) → (∀ j o, n ≤ j → l[j]? = some o → st j = ownAt a0 o) → (∀ j x, L.getD j false = true → lf[j]? = some x → x.holds (st j) w) → Below w0.heap.size w0 w →
      (∀ j b, j < n → L.getD j b = true) → (List.range l.length).countP (fun j => !L.getD j true) ≤ fuel → wpAny P .any l.toArray Q fuel L (putAll l st 0 a0) w := fun fuel L st w hs hn ho hh hb hall hc => by
    have hL : ∀ j b, j < l.length → L.getD j b = decide (j < n) := fun j b hj => by
      rcases Nat.lt_or_ge j n with h | h
      · rw [hall j b h]; simp [h]
      · rw [hn j b h hj]; simp; omega
    refine wpAny_forced hw he fuel n L _ w (Nat.le_refl _) hnl hs hL ?_ ?_
    · refine Nat.le_trans ?_ hc
      have h1 : (List.range l.length).countP (fun j => !L.getD j true) = (List.range l.length).countP (fun j => decide (n ≤ j)) := List.countP_congr fun j hj => by
        rw [hL j true (List.mem_range.1 hj)]
        simp
      rw [h1]
      have h2 : List.range l.length = List.range n ++ (List.range (l.length - n)).map (n + ·) := by
        rw [← List.range_add]; congr 1; omega
      rw [h2, List.countP_append]
      have h3 : ((List.range (l.length - n)).map (n + ·)).countP (fun j => decide (n ≤ j)) = l.length - n := by
        rw [List.countP_eq_length.2]
        · simp
        · intro j hj
          obtain ⟨i, _, rfl⟩ := List.mem_map.1 hj
          simp
      omega
    · refine finAll_use (Q := fun _ a w => wpList P l.toArray Q (l.drop n) a w) l lf 0 a0 hlen (fun i x hx => ?_) (fin w hb)
      have hi : i < l.length := by rw [hlen]; exact (List.getElem?_eq_some_iff.1 hx).1
      rw [Nat.zero_add]
      rcases Nat.lt_or_ge i n with h | h
      · exact hh i x (hall i false h) hx
      · have hxo : lf[i]? = some (.is (ownAt a0 l[i])) := by
          have : (lf.drop n)[i - n]? = some (.is (ownAt a0 l[i])) := by
            rw [hown, List.getElem?_map, List.getElem?_drop, show n + (i - n) = i by omega, List.getElem?_eq_getElem hi]; rfl
          rw [List.getElem?_drop, show n + (i - n) = i by omega] at this
          exact this
        rw [hxo] at hx
        injection hx with hx
        subst hx
        exact ho i _ h (List.getElem?_eq_getElem hi)
  induction fuel with
  | zero =>
    intro L st w hs hcl hor hn ho hh hb hc
    have hall : ∀ j, j < l.length → L.getD j true = true := fun j hj => by
      have h0 := List.countP_eq_zero.1 (Nat.le_zero.1 hc) j (List.mem_range.2 hj)
      simpa using h0
    exact done 0 L st w hs hn ho hh hb (fun j b hj => by
      have h1 := hall j (by omega)
      rw [Array.getD_eq_getD_getElem?, Array.getElem?_eq_getElem (by omega)] at h1 ⊢
      simpa using h1) hc
  | succ fuel ih =>
    intro L st w hs hcl hor hn ho hh hb hc
    by_cases hall : ∀ j b, j < n → L.getD j b = true
    · exact done (fuel + 1) L st w hs hn ho hh hb hall hc
    · -- something of the front has not come up
      have hex : ∃ j, j < n ∧ L.getD j true = false := Decidable.byContradiction fun hno => hall fun j b hj => by
        have h1 : L.getD j true = true := by
          cases e : L.getD j true with
          | true => rfl
          | false => exact absurd ⟨j, hj, e⟩ hno
        rw [Array.getD_eq_getD_getElem?, Array.getElem?_eq_getElem (by omega)] at h1 ⊢
        simpa using h1
      have front : ∀ i, i ∈ Region.ready .any l.toArray L → i < n := fun i hi => by
        obtain ⟨o, h1, h2, h3⟩ := mem_ready.1 hi
        rcases Nat.lt_or_ge i n with h | h
        · exact h
        · exfalso
          obtain ⟨j, hj, hjf⟩ := hex
          have h4 := getD_tf (h3 j (hw i o h h1 j (by omega)))
          rw [hjf] at h4; cases h4
      have least : Region.ready .any l.toArray L = [] → False := fun hr => by
        obtain ⟨j0, hj0, hf0⟩ := hex
        have : ∀ j, j < n → L.getD j true = true := fun j => by
          induction j using Nat.strongRecOn with
          | _ j ihj =>
            intro hj
            cases hcj : L.getD j true with
            | true => rfl
            | false =>
              have hm : j ∈ Region.ready .any l.toArray L := mem_ready.2 ⟨l[j]'(by omega), by simp, hcj, fun k hk => by
                have hlt := edgesDown_get he (show l[j]? = some (l[j]'(by omega)) by simp) k hk
                rw [Nat.zero_add] at hlt
                have := ihj k hlt (by omega)
                rw [Array.getD_eq_getD_getElem?, Array.getElem?_eq_getElem (by omega)] at this ⊢
                simpa using this⟩
              rw [hr] at hm; cases hm
        rw [this j0 hj0] at hf0; cases hf0
      refine ⟨fun hr => (least hr).elim, fun i hi => ?_⟩
      have hin := front i hi
      obtain ⟨o, h1, h2, h3⟩ := mem_ready.1 hi
      have hil : i < l.length := (List.getElem?_eq_some_iff.1 h1).1
      have hx : lf[i]? = some lf[i] := by simp
      have hstep := stepGoal_use (i := i) l lf 0 a0 hlen hd (fun j hj i' x e hx' => ?_) (hor.waits hs hcl h2) (steps i o lf[i] hin h1 hx w hb st)
      · have key := hstep (fun a w' => wpAny P .any l.toArray Q fuel (L.setIfInBounds i true) a w') (fun v w' hb' hv a' ha' => ?_)
        · unfold wpOp
          simp only [List.getElem?_toArray, h1]
          unfold opStep at key
          split at key
          · rename_i hw; rw [if_pos hw]; exact .inl key
          · rename_i hw; rw [if_neg hw]; exact key
        · rw [ha', putAll_set hd h1]
          refine ih _ _ w' (by simpa using hs) (hcl.step (by omega) h1 h3) (hor.step (by omega)) (fun j b hj hjl => by
            rw [getD_set (by omega), if_neg (by omega)]; exact hn j b hj hjl) (fun j o' hj hjo => by
            rw [Nat.zero_add, if_neg (by omega)]; exact ho j o' hj hjo) (fun j x hj hx' => ?_) (hb.trans (hb'.mono hb.size)) ?_
          · rw [getD_set (by omega)] at hj
            rw [Nat.zero_add]
            by_cases e : j = i
            · subst e
              rw [hx] at hx'
              injection hx' with hx'
              subst hx'
              rw [if_pos rfl]; exact hv
            · rw [if_neg e] at hj ⊢
              exact Left.on (hh j x hj hx') hb'
          · have hlt := countP_lt (p := fun j => !L.getD j true) (p' := fun j => !(L.setIfInBounds i true).getD j true) (i := i) (fun j hj => by
              rw [getD_set (by omega)] at hj
              by_cases e : j = i
              · rw [if_pos e] at hj; cases hj
              · rw [if_neg e] at hj; exact hj) (by rw [h2]; rfl) (by rw [getD_set (by omega), if_pos rfl]; rfl) (List.range l.length) (List.mem_range.2 hil)
            omega
      · subst e
        rw [Nat.zero_add] at hj ⊢
        exact hh i' x (h3 i' hj) hx'

/-- A region that draws its order: n operations in any order, then the rest one after the other. -/
theorem region_tail (lf : List Left) (n : Nat) {id : Nat} (hm : P.follows .mixedOrders = true) (hlen : l.length = lf.length) (hnl : decide (n ≤ l.length) = true) (hd : distinctDst l = true) (he : edgesDown 0 l = true) (hw : tailWaits n l = true)
    (hown : lf.drop n = (l.drop n).map fun o => .is (ownAt a0 o))
    (steps : AllSteps P l.toArray Q a0 (fun w => Below w0.heap.size w0 w) l lf 0 (l.take n) (lf.take n))
    (fin : ∀ w', Below w0.heap.size w0 w' → FinAll (fun _ a w => wpList P l.toArray Q (l.drop n) a w) l lf a0 w') : (Code.region id l.toArray true).wp P Q a0 w0 := by
  refine wp_region_any hm ?_
  have h0 : putAll l (fun j => match l[j]? with | some o => ownAt a0 o | none => undef) 0 a0 = a0 :=
    putAll_self l _ 0 a0 (fun i o ho d hd => by rw [Nat.zero_add]; simp only [ho, ownAt, hd])
  have hrep : ∀ j b, (Array.replicate l.toArray.size false).getD j b = if j < l.length then false else b := fun j b => by
    simp only [Array.getD_eq_getD_getElem?, Array.getElem?_replicate]
    by_cases h : j < l.length
    · simp [h]
    · simp [h]
  have h1 := wpAny_tail (n := n) hlen (of_decide_eq_true hnl) hd he (tailWaits_spec hw) hown (fun i o x hi ho hx => by
      have := steps.get i o x (by rw [List.getElem?_take, if_pos hi]; exact ho) (by rw [List.getElem?_take, if_pos hi]; exact hx)
      rwa [Nat.zero_add] at this) fin l.toArray.size (Array.replicate l.toArray.size false) (fun j => match l[j]? with | some o => ownAt a0 o | none => undef) w0.drew (by simp)
    (fun j o hj _ => by rw [hrep] at hj; split at hj <;> cases hj) (fun j o ho _ d hd => by simp only [ho, ownAt, hd]) (fun j b _ hj => by rw [hrep, if_pos hj]) (fun j o _ ho => by simp only [ho])
    (fun j x hj _ => by rw [hrep] at hj; split at hj <;> cases hj) ⟨rfl, rfl, rfl, Nat.le_refl _, fun _ _ => rfl⟩ (by
      refine Nat.le_trans (List.countP_le_length) ?_
      simp)
  rw [h0] at h1
  exact h1
end
end Go.Proofs.Ytmcdmcnbnnfhnaa
