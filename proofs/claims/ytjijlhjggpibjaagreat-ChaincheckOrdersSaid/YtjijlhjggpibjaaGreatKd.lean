/-
  Chapter 55, plain: a linearization is legal and verified.
-/
import Derived.Test.YtjijlhjggpibjaaGreatGe
import Derived.Test.YtjijlhjggpibjaaGreatVn
namespace Go.Proofs.YtjijlhjggpibjaaGreat

theorem mem_intsNN {l : List Nat} {i : Nat} : (i : Int) ∈ intsNN l ↔ i ∈ l := by
  unfold intsNN
  rw [List.mem_map]
  exact ⟨fun ⟨k, hk, e⟩ => (show k = i by omega) ▸ hk, fun h => ⟨i, h, rfl⟩⟩
theorem exact_of {S xs : List Str} (h : ∀ x, x ∈ xs ↔ x ∈ S) : exactB S xs = true := by
  unfold exactB
  rw [decide_eq_true (fun s hs => (h s).1 hs), Bool.true_and, decide_eq_true_iff]
  exact (uniq_len (srt_nodup (ofL_sorted xs)) fun x => (mem_ofL xs x).trans (h x)).symm
theorem LinD.leg {h : List Opn} {l : List Nat} (hl : LinD h l) : ∀ (s p : List Nat) (S : List Str), l = p ++ s → (∀ x, x ∈ S ↔ ∃ u ∈ p, UpI h u ∧ x ∈ addO (nth h u)) → legFrom h (intsNN s) (intsNN p) S = true
  | [], _, _, _, _ => rfl
  | i :: s, p, S, he, hS => by
    have hil : i ∈ l := by rw [he]; simp
    have hi := hl.lt i hil
    have hip : (i : Int) ∉ intsNN p := fun hm => by
      have h1 := hl.nodup
      rw [he, List.nodup_append] at h1
      exact h1.2.2 i (mem_intsNN.1 hm) i (by simp) rfl
    have hrec : ∀ S', (∀ x, x ∈ S' ↔ ∃ u ∈ p ++ [i], UpI h u ∧ x ∈ addO (nth h u)) → legFrom h (intsNN s) (intsNN p ++ [(i : Int)]) S' = true := fun S' hS' => by
      have := hl.leg s (p ++ [i]) S' (by rw [he]; simp) hS'
      rwa [intsNN_snoc] at this
    show legFrom h ((i : Int) :: intsNN s) (intsNN p) S = true
    rw [legFrom_ok hi hip, ← nth_eq hi]
    by_cases hu : UpI h i
    · rw [if_pos (show kindO (nth h i) = 1 from hu)]
      refine hrec _ fun x => ?_
      rw [List.mem_append, hS]
      constructor
      · rintro (⟨u, h1, h2, h3⟩ | h1)
        · exact ⟨u, by simp [h1], h2, h3⟩
        · exact ⟨i, by simp, hu, h1⟩
      · rintro ⟨u, h1, h2, h3⟩
        rcases List.mem_append.1 h1 with h4 | h4
        · exact .inl ⟨u, h4, h2, h3⟩
        · rw [List.mem_singleton.1 h4] at h3; exact .inr h3
    · have hr : RdI h i := (hl.kind i hil).resolve_left hu
      rw [if_neg (show ¬ kindO (nth h i) = 1 from hu), if_pos hr.1, Bool.and_eq_true]
      refine ⟨exact_of fun x => (hl.sees p i s he hr x).trans (hS x).symm, hrec _ fun x => ?_⟩
      rw [hS]
      constructor
      · rintro ⟨u, h1, h2, h3⟩
        exact ⟨u, by simp [h1], h2, h3⟩
      · rintro ⟨u, h1, h2, h3⟩
        rcases List.mem_append.1 h1 with h4 | h4
        · exact ⟨u, h4, h2, h3⟩
        · rw [List.mem_singleton.1 h4] at h2; exact absurd h2 hu
theorem LinD.legal {h : List Opn} {l : List Nat} (hl : LinD h l) : legB h (intsNN l) = true := hl.leg l [] [] rfl fun x => by simp
theorem ints_at {l : List Nat} {a i : Nat} (h : (intsNN l)[a]? = some (i : Int)) : l[a]? = some i := by
  unfold intsNN at h
  rw [List.getElem?_map] at h
  cases e : l[a]? with
  | none => rw [e] at h; cases h
  | some k =>
    rw [e] at h
    have h1 : (k : Int) = (i : Int) := by injection h
    have h2 : k = i := by omega
    rw [h2]
theorem LinD.ver {h : List Opn} (hw : Well h) {l : List Nat} (hl : LinD h l) : verB h (intsNN l) = true := by
  refine ver_iff.2 ⟨chk_well.2 hw, hl.legal, fun i hi hk => ?_, fun i hi he => mem_intsNN.2 (hl.all i hi he), fun a b i k ha hb hab => ?_⟩
  · rcases hl.kind i (mem_intsNN.1 hi) with h1 | h1
    · have h2 : kindO (nth h i) = 1 := h1
      rw [h2] at hk; exact absurd hk.1 (by decide)
    · have := h1.2; omega
  · have h1 := ints_at ha
    have h2 := ints_at hb
    obtain ⟨la, ea⟩ := List.getElem?_eq_some_iff.1 h1
    obtain ⟨lb, eb⟩ := List.getElem?_eq_some_iff.1 h2
    have := List.pairwise_iff_getElem.1 hl.prec b a lb la hab
    rw [ea, eb] at this
    exact this
end Go.Proofs.YtjijlhjggpibjaaGreat
