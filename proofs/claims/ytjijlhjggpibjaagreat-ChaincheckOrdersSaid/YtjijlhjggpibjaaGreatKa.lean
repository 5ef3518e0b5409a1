/-
  Chapter 55, plain: linearizations of a history, and the reasons against one.
-/
import Derived.Test.YtjijlhjggpibjaaGreatLa
namespace Go.Proofs.YtjijlhjggpibjaaGreat

def RdI (h : List Opn) (i : Nat) : Prop := kindO (nth h i) = 2 ∧ 0 ≤ endO (nth h i)
def UpI (h : List Opn) (i : Nat) : Prop := kindO (nth h i) = 1
instance (h : List Opn) (i : Nat) : Decidable (RdI h i) := inferInstanceAs (Decidable (_ ∧ _))
instance (h : List Opn) (i : Nat) : Decidable (UpI h i) := inferInstanceAs (Decidable (_ = _))
def ShowI (h : List Opn) (r u : Nat) : Prop := ∀ s ∈ addO (nth h u), s ∈ seeO (nth h r)
def WithI (h : List Opn) (r q : Nat) : Prop := ∀ s ∈ seeO (nth h r), s ∈ seeO (nth h q)
instance (h : List Opn) (r u : Nat) : Decidable (ShowI h r u) := inferInstanceAs (Decidable (∀ s ∈ _, _))
instance (h : List Opn) (r q : Nat) : Decidable (WithI h r q) := inferInstanceAs (Decidable (∀ s ∈ _, _))

/-- None of the reasons holds. -/
structure NoReason (h : List Opn) : Prop where
  known : ∀ r, r < h.length → RdI h r → ∀ s ∈ seeO (nth h r), ∃ u, u < h.length ∧ UpI h u ∧ s ∈ addO (nth h u)
  whole : ∀ r u, r < h.length → u < h.length → RdI h r → UpI h u → (∃ s ∈ addO (nth h u), s ∈ seeO (nth h r)) → ShowI h r u
  chain : ∀ r q, r < h.length → q < h.length → RdI h r → RdI h q → WithI h r q ∨ WithI h q r
  early : ∀ r u, r < h.length → u < h.length → RdI h r → UpI h u → prI h r u = true → ¬ ShowI h r u
  late : ∀ u r, u < h.length → r < h.length → UpI h u → RdI h r → prI h u r = true → ShowI h r u
  back : ∀ r q, r < h.length → q < h.length → RdI h r → RdI h q → prI h r q = true → WithI h r q
  swapped : ∀ u w r, u < h.length → w < h.length → r < h.length → UpI h u → UpI h w → RdI h r → prI h u w = true → ShowI h r w → ShowI h r u

/-- A list of indices that is a linearization. -/
structure LinD (h : List Opn) (l : List Nat) : Prop where
  nodup : l.Nodup
  lt : ∀ i ∈ l, i < h.length
  kind : ∀ i ∈ l, UpI h i ∨ RdI h i
  all : ∀ i, i < h.length → 0 ≤ endO (nth h i) → i ∈ l
  prec : l.Pairwise fun i k => prI h k i = false
  sees : ∀ p i s, l = p ++ i :: s → RdI h i → ∀ x, x ∈ seeO (nth h i) ↔ ∃ u ∈ p, UpI h u ∧ x ∈ addO (nth h u)

theorem up_adds {h : List Opn} (hw : Well h) {u : Nat} (hu : u < h.length) (hk : UpI h u) : ∃ s, s ∈ addO (nth h u) := by
  rcases (form_of (hw.1 _ (nth_mem hu))).2.2.2.2.2 with h1 | h1
  · exact List.exists_mem_of_ne_nil _ h1.2.1
  · have h2 : kindO (nth h u) = 1 := hk
    rw [h1.1] at h2; exact absurd h2 (by decide)
theorem adds_one {h : List Opn} (hw : Well h) {u v : Nat} (hu : u < h.length) (hv : v < h.length) {s : Str} (h1 : s ∈ addO (nth h u)) (h2 : s ∈ addO (nth h v)) : u = v := by
  have key : ∀ i j, i < j → j < h.length → s ∈ addO (nth h j) → s ∉ addO (nth h i) := fun i j hij hj hs => by
    have := List.pairwise_iff_getElem.1 hw.2.2 i j (by omega) hj hij s
    rw [nth_eq hj] at hs
    rw [nth_eq (by omega)]
    exact this hs
  rcases Nat.lt_trichotomy u v with h3 | h3 | h3
  · exact absurd h1 (key u v h3 hv h2)
  · exact h3
  · exact absurd h2 (key v u h3 hu h1)
theorem pr_end {h : List Opn} (hw : Well h) {i k : Nat} (hi : i < h.length) (hp : prI h i k = true) : 0 ≤ endO (nth h i) ∧ endO (nth h i) < begO (nth h k) := by
  have h1 := prec_of hp
  have h2 := form_of (hw.1 _ (nth_mem hi))
  omega
theorem pr_self {h : List Opn} (hw : Well h) {i : Nat} (hi : i < h.length) : prI h i i = false := by
  refine Bool.eq_false_iff.2 fun hp => ?_
  have h1 := pr_end hw hi hp
  have h2 := form_of (hw.1 _ (nth_mem hi))
  omega
section
variable {h : List Opn} {l : List Nat}
theorem LinD.cut (_ : LinD h l) {r : Nat} (hr : r ∈ l) : ∃ p s, l = p ++ r :: s := List.append_of_mem hr
theorem LinD.before (hl : LinD h l) {p s : List Nat} {i k : Nat} (he : l = p ++ i :: s) (hk : k ∈ l) (hne : ¬ k = i) (hp : prI h k i = true) : k ∈ p := by
  have h1 := hl.prec
  rw [he] at h1 hk
  rcases List.mem_append.1 hk with h2 | h2
  · exact h2
  · rcases List.mem_cons.1 h2 with h3 | h3
    · exact absurd h3 hne
    · have h4 := (List.pairwise_cons.1 (List.pairwise_append.1 h1).2.1).1 k h3
      rw [hp] at h4; cases h4
theorem LinD.within (hl : LinD h l) {r q : Nat} (rr : RdI h r) (rq : RdI h q) {p s : List Nat} (he : l = p ++ q :: s) (hrp : r ∈ p) : WithI h r q := by
  intro x hx
  obtain ⟨p1, p2, rfl⟩ := List.append_of_mem hrp
  have he2 : l = p1 ++ r :: (p2 ++ q :: s) := by rw [he]; simp
  obtain ⟨u, hu, h1, h2⟩ := (hl.sees _ _ _ he2 rr x).1 hx
  exact (hl.sees _ _ _ he rq x).2 ⟨u, by simp [hu], h1, h2⟩
/-- A linearization leaves no reason. -/
theorem LinD.noReason (hw : Well h) (hl : LinD h l) : NoReason h where
  known := fun r hr rr s hs => by
    obtain ⟨p, q, he⟩ := hl.cut (hl.all r hr rr.2)
    obtain ⟨u, hu, h1, h2⟩ := (hl.sees _ _ _ he rr s).1 hs
    exact ⟨u, hl.lt u (by rw [he]; simp [hu]), h1, h2⟩
  whole := fun r u hr hu rr uu ⟨s, h1, h2⟩ x hx => by
    obtain ⟨p, q, he⟩ := hl.cut (hl.all r hr rr.2)
    obtain ⟨v, hv, h3, h4⟩ := (hl.sees _ _ _ he rr s).1 h2
    have e := adds_one hw hu (hl.lt v (by rw [he]; simp [hv])) h1 h4
    subst e
    exact (hl.sees _ _ _ he rr x).2 ⟨u, hv, h3, hx⟩
  chain := fun r q hr hq rr rq => by
    have h1 := hl.all r hr rr.2
    have h2 := hl.all q hq rq.2
    obtain ⟨p, s, he⟩ := hl.cut h1
    have h3 := h2
    rw [he] at h3
    rcases List.mem_append.1 h3 with h4 | h4
    · exact .inr (hl.within rq rr he h4)
    · rcases List.mem_cons.1 h4 with h5 | h5
      · subst h5; exact .inl fun x hx => hx
      · obtain ⟨s1, s2, rfl⟩ := List.append_of_mem h5
        exact .inl (hl.within rr rq (p := p ++ r :: s1) (s := s2) (by rw [he]; simp) (by simp))
  early := fun r u hr hu rr uu hp hsh => by
    have h1 := hl.all r hr rr.2
    obtain ⟨p, s, he⟩ := hl.cut h1
    obtain ⟨x, hx⟩ := up_adds hw hu uu
    obtain ⟨v, hv, h3, h4⟩ := (hl.sees _ _ _ he rr x).1 (hsh x hx)
    have e := adds_one hw hu (hl.lt v (by rw [he]; simp [hv])) hx h4
    subst e
    have h5 := hl.prec
    rw [he] at h5
    have h6 := (List.pairwise_append.1 h5).2.2 u hv r (by simp)
    rw [hp] at h6; cases h6
  late := fun u r hu hr uu rr hp x hx => by
    have h1 := hl.all r hr rr.2
    obtain ⟨p, s, he⟩ := hl.cut h1
    have h2 := hl.all u hu (pr_end hw hu hp).1
    have hne : ¬ u = r := by rintro rfl; rw [pr_self hw hu] at hp; cases hp
    exact (hl.sees _ _ _ he rr x).2 ⟨u, hl.before he h2 hne hp, uu, hx⟩
  back := fun r q hr hq rr rq hp => by
    have h1 := hl.all r hr rr.2
    have h2 := hl.all q hq rq.2
    obtain ⟨p, s, he⟩ := hl.cut h2
    have hne : ¬ r = q := by rintro rfl; rw [pr_self hw hr] at hp; cases hp
    exact hl.within rr rq he (hl.before he h1 hne hp)
  swapped := fun u w r hu hw2 hr uu uw rr hp hsh x hx => by
    have h1 := hl.all r hr rr.2
    obtain ⟨p, s, he⟩ := hl.cut h1
    obtain ⟨y, hy⟩ := up_adds hw hw2 uw
    obtain ⟨v, hv, h3, h4⟩ := (hl.sees _ _ _ he rr y).1 (hsh y hy)
    have e := adds_one hw hw2 (hl.lt v (by rw [he]; simp [hv])) hy h4
    subst e
    obtain ⟨p1, p2, rfl⟩ := List.append_of_mem hv
    have h2 := hl.all u hu (pr_end hw hu hp).1
    have hne : ¬ u = w := by rintro rfl; rw [pr_self hw hu] at hp; cases hp
    have h5 := hl.before (p := p1) (s := p2 ++ r :: s) (by rw [he]; simp) h2 hne hp
    exact (hl.sees _ _ _ he rr x).2 ⟨u, by simp [h5], uu, hx⟩
end
end Go.Proofs.YtjijlhjggpibjaaGreat
