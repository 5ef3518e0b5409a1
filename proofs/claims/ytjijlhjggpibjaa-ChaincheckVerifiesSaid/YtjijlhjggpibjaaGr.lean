/-
  Chapter 55, plain: what Verify of the reference asks is what Verify asks.
-/
import Derived.Test.YtjijlhjggpibjaaGp
namespace Go.Proofs.Ytjijlhjggpibjaa
open Go.RowKit

/-- What the updates before a place of an order added. -/
def addsK (h : List Opn) (is : List Int) : Nat → List Str
  | 0 => []
  | j + 1 => addsK h is j ++ (match is[j]? with | some i => if UpI h i.toNat then addO (nth h i.toNat) else [] | none => [])
theorem addsK_up {h : List Opn} {is : List Int} {j : Nat} (hj : j < is.length) (hu : UpI h is[j].toNat) : addsK h is (j + 1) = addsK h is j ++ addO (nth h is[j].toNat) := by
  show addsK h is j ++ (match is[j]? with | some i => if UpI h i.toNat then addO (nth h i.toNat) else [] | none => []) = _
  rw [List.getElem?_eq_getElem hj]
  simp only
  rw [if_pos hu]
theorem addsK_no {h : List Opn} {is : List Int} {j : Nat} (hj : j < is.length) (hu : ¬ UpI h is[j].toNat) : addsK h is (j + 1) = addsK h is j := by
  show addsK h is j ++ (match is[j]? with | some i => if UpI h i.toNat then addO (nth h i.toNat) else [] | none => []) = _
  rw [List.getElem?_eq_getElem hj]
  simp only
  rw [if_neg hu, List.append_nil]
theorem addsK_len {h : List Opn} {is : List Int} (hs : SmallH h) (hl : ∀ j (hj : j < is.length), 0 ≤ is[j] ∧ is[j] < h.length) : ∀ j, j ≤ is.length → (addsK h is j).length ≤ 1000 * j
  | 0, _ => by simp [addsK]
  | j + 1, hj => by
    have ih := addsK_len hs hl j (by omega)
    by_cases hu : UpI h is[j].toNat
    · rw [addsK_up (by omega) hu, List.length_append]
      have h1 := hl j (by omega)
      have h2 := (hs.2 _ (nth_mem (show is[j].toNat < h.length by omega))).1
      omega
    · rw [addsK_no (by omega) hu]; omega
theorem adds_mem {h : List Opn} {l : List Nat} (x : Str) : ∀ j, j ≤ l.length → (x ∈ addsK h (intsNN l) j ↔ ∃ u ∈ l.take j, UpI h u ∧ x ∈ addO (nth h u))
  | 0, _ => by simp [addsK]
  | j + 1, hj => by
    have ih := adds_mem (h := h) (l := l) x j (by omega)
    have hjl : j < (intsNN l).length := by rw [nn_len]; omega
    have he : (intsNN l)[j].toNat = l[j] := by
      obtain ⟨_, h2⟩ := nn_at (show j < l.length by omega)
      rw [h2]; simp
    rw [List.take_succ_eq_append_getElem (by omega)]
    by_cases hu : UpI h l[j]
    · rw [addsK_up hjl (by rw [he]; exact hu), List.mem_append, ih, he]
      constructor
      · rintro (⟨u, h1, h2, h3⟩ | h1)
        · exact ⟨u, List.mem_append_left _ h1, h2, h3⟩
        · exact ⟨l[j], List.mem_append_right _ (List.mem_singleton.2 rfl), hu, h1⟩
      · rintro ⟨u, h1, h2, h3⟩
        rcases List.mem_append.1 h1 with h4 | h4
        · exact .inl ⟨u, h4, h2, h3⟩
        · rw [List.mem_singleton.1 h4] at h3; exact .inr h3
    · rw [addsK_no hjl (by rw [he]; exact hu), ih]
      constructor
      · rintro ⟨u, h1, h2, h3⟩
        exact ⟨u, List.mem_append_left _ h1, h2, h3⟩
      · rintro ⟨u, h1, h2, h3⟩
        rcases List.mem_append.1 h1 with h4 | h4
        · exact ⟨u, h4, h2, h3⟩
        · rw [List.mem_singleton.1 h4] at h2; exact absurd h2 hu
theorem nn_getE {l : List Nat} {j x : Nat} : (intsNN l)[j]? = some (x : Int) ↔ l[j]? = some x := by
  unfold intsNN
  rw [List.getElem?_map]
  cases l[j]? with
  | none => simp
  | some k =>
    constructor
    · intro h
      have h1 : (k : Int) = (x : Int) := by injection h
      have : k = x := by omega
      rw [this]
    · intro h; injection h with h; rw [h]; rfl
theorem plok_of_ver {h : List Opn} {is : List Int} (hv : VerP h is) : PlOk h is := by
  obtain ⟨hw, l, rfl, hl⟩ := lin_of_ver hv
  have hat : ∀ j (hj : j < (intsNN l).length), ∃ hj' : j < l.length, (intsNN l)[j] = (l[j] : Int) := fun j hj => by
    have hj' : j < l.length := by rw [nn_len] at hj; exact hj
    obtain ⟨_, h2⟩ := nn_at hj'
    exact ⟨hj', h2⟩
  refine ⟨fun j hj => ?_, fun j hj => ?_, fun j hj j' hlt => ?_, fun i hi he => ?_⟩
  · obtain ⟨hj', e⟩ := hat j hj
    rw [e]
    have := hl.lt _ (List.getElem_mem hj')
    omega
  · obtain ⟨hj', e⟩ := hat j hj
    rw [e, Int.toNat_natCast]
    exact hl.kind _ (List.getElem_mem hj')
  · obtain ⟨hj', e⟩ := hat j hj
    rw [e]
    intro q
    have q2 := nn_getE.1 q
    obtain ⟨hb, hc⟩ := List.getElem?_eq_some_iff.1 q2
    exact List.pairwise_iff_getElem.1 hl.nodup j' j hb hj' hlt hc
  · obtain ⟨j, hj, hm⟩ := List.getElem_of_mem (hl.all i hi he)
    refine posK_in (j' := j) (by rw [nn_len]; exact hj) (nn_getE.2 ?_)
    rw [List.getElem?_eq_getElem hj, hm]
theorem see_of_ver {h : List Opn} {is : List Int} (hv : VerP h is) {j : Nat} (hj : j < is.length) (hr : RdI h is[j].toNat) (x : Str) : x ∈ seeO (nth h is[j].toNat) ↔ x ∈ addsK h is j := by
  obtain ⟨hw, l, rfl, hl⟩ := lin_of_ver hv
  have hj' : j < l.length := by rw [nn_len] at hj; exact hj
  obtain ⟨_, h2⟩ := nn_at hj'
  rw [h2, Int.toNat_natCast] at hr ⊢
  rw [adds_mem x j (by omega)]
  have he : l = l.take j ++ l[j] :: l.drop (j + 1) := by
    rw [← List.drop_eq_getElem_cons hj', List.take_append_drop]
  exact hl.sees _ _ _ he hr x
theorem pos_at {h : List Opn} {is : List Int} (hp : PlOk h is) {a x : Nat} (ha : is[a]? = some (x : Int)) : posK is is.length x = (a : Int) := by
  obtain ⟨hal, hae⟩ := List.getElem?_eq_some_iff.1 ha
  rcases posK_cases is is.length x with h1 | ⟨j', h1, h2, h3⟩
  · have := posK_in hal ha
    omega
  · rw [h3]
    have : j' = a := by
      rcases Nat.lt_trichotomy j' a with h4 | h4 | h4
      · have := hp.one a hal j' h4
        rw [hae] at this
        exact absurd h2 this
      · exact h4
      · have := hp.one j' h1 a h4
        rw [(List.getElem?_eq_some_iff.1 h2).2] at this
        exact absurd ha this
    rw [this]
theorem ver_prec {h : List Opn} {is : List Int} (hv : VerP h is) {i k : Nat} (hpr : prI h i k = true) (h0 : 0 ≤ posK is is.length k) : ¬ posK is is.length k < posK is is.length i := by
  intro hlt
  rcases posK_cases is is.length k with h1 | ⟨b, h1, h2, h3⟩
  · omega
  · rcases posK_cases is is.length i with h4 | ⟨a, h4, h5, h6⟩
    · omega
    · have := hv.2.2.2.2 a b i k h5 h2 (by omega)
      rw [hpr] at this; cases this
theorem ver_of {h : List Opn} {is : List Int} (hw : Well h) (hp : PlOk h is) (hprec : ∀ i k, i < h.length → k < h.length → prI h i k = true → 0 ≤ posK is is.length k → ¬ posK is is.length k < posK is is.length i)
    (hsee : ∀ j (hj : j < is.length), RdI h is[j].toNat → ∀ x, x ∈ seeO (nth h is[j].toNat) ↔ x ∈ addsK h is j) : VerP h is := by
  obtain ⟨l, hl⟩ : ∃ l, is = intsNN l := ⟨is.map Int.toNat, by
    unfold intsNN
    rw [List.map_map]
    have : ∀ x ∈ is, (Int.ofNat ∘ Int.toNat) x = x := fun x hx => by
      obtain ⟨j, hj, rfl⟩ := List.getElem_of_mem hx
      have := (hp.lt j hj).1
      simp only [Function.comp]
      show ((is[j].toNat : Nat) : Int) = is[j]
      omega
    exact (List.map_id' is ▸ (List.map_congr_left (g := fun x => x) this)).symm⟩
  subst hl
  have hlen : (intsNN l).length = l.length := nn_len l
  have hat : ∀ j (hj : j < l.length), ∃ hj' : j < (intsNN l).length, (intsNN l)[j] = (l[j] : Int) := fun j hj => nn_at hj
  have hin : ∀ {j x : Nat}, l[j]? = some x → (intsNN l)[j]? = some (x : Int) := fun h => nn_getE.2 h
  have hlin : LinD h l := by
    refine ⟨?_, fun i hi => ?_, fun i hi => ?_, fun i hi he => ?_, ?_, fun p i s he hr x => ?_⟩
    · show List.Pairwise (· ≠ ·) l
      rw [List.pairwise_iff_getElem]
      intro b a hb ha hab e
      obtain ⟨ha', e1⟩ := hat a ha
      refine hp.one a ha' b hab ?_
      rw [e1, ← e]
      exact hin (List.getElem?_eq_getElem hb)
    · obtain ⟨j, hj, rfl⟩ := List.getElem_of_mem hi
      obtain ⟨hj', e1⟩ := hat j hj
      have := (hp.lt j hj').2
      rw [e1] at this
      omega
    · obtain ⟨j, hj, rfl⟩ := List.getElem_of_mem hi
      obtain ⟨hj', e1⟩ := hat j hj
      have := hp.kind j hj'
      rwa [e1, Int.toNat_natCast] at this
    · obtain ⟨j, h1, h2⟩ := posK_iff.1 (hp.all i hi he)
      have h3 := nn_getE.1 h2
      exact List.mem_of_getElem? h3
    · rw [List.pairwise_iff_getElem]
      intro b a hb ha hab
      refine Bool.eq_false_iff.2 fun hpr => ?_
      have pa := pos_at hp (hin (List.getElem?_eq_getElem ha))
      have pb := pos_at hp (hin (List.getElem?_eq_getElem hb))
      obtain ⟨ha', e1⟩ := hat a ha
      obtain ⟨hb', e2⟩ := hat b hb
      have la := (hp.lt a ha').2
      have lb := (hp.lt b hb').2
      rw [e1] at la
      rw [e2] at lb
      exact hprec l[a] l[b] (by omega) (by omega) hpr (by rw [pb]; omega) (by rw [pa, pb]; omega)
    · have hj : p.length < l.length := by rw [he]; simp
      have e1 : l[p.length] = i := by simp [he]
      have e2 : l.take p.length = p := by rw [he]; simp
      obtain ⟨hj', e3⟩ := hat p.length hj
      have h1 := hsee p.length hj' (by rw [e3, Int.toNat_natCast, e1]; exact hr) x
      rw [e3, Int.toNat_natCast, e1, adds_mem x p.length (by omega), e2] at h1
      exact h1
  exact ver_iff.1 (hlin.ver hw)
theorem same_iff {a b : List Str} : sameS a b = true ↔ ∀ x, x ∈ a ↔ x ∈ b := by
  unfold sameS
  rw [Bool.and_eq_true, sub_iff, sub_iff]
  exact ⟨fun h x => ⟨h.1 x, h.2 x⟩, fun h => ⟨fun x => (h x).1, fun x => (h x).2⟩⟩
end Go.Proofs.Ytjijlhjggpibjaa
