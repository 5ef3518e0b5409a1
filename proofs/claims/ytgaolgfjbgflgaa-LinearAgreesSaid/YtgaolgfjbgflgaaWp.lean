/-
  Chapter 56, plain: the program's stepwise witness agrees with the reference's.
-/
import Derived.Test.YtgaolgfjbgflgaaWr
namespace Go.Proofs.Ytgaolgfjbgflgaa

/-- The program's steps. -/
def witM (h : List Opn) : List Int → List Nat → Bool
  | [], l => compB h l
  | i :: is, l => if i < 0 then false else if (h.length : Int) ≤ i then false else if mayB h (maskL l) i.toNat = true then witM h is (l ++ [i.toNat]) else false
theorem wit_open {h : List Opn} {x y : Nat} (hx : x < h.length) (hy : y < h.length) (hp : prI h y x = true) : ∀ (is : List Int) (l : List Nat), x ∈ l → y ∉ l → witM h is l = false
  | [], l, _, hyl => Bool.eq_false_iff.2 fun hc => hyl (comp_iff.1 hc y hy (prec_of hp).1)
  | i :: is, l, hxl, hyl => by
    rw [witM]
    by_cases h0 : i < 0
    · rw [if_pos h0]
    · by_cases h1 : (h.length : Int) ≤ i
      · rw [if_neg h0, if_pos h1]
      · rw [if_neg h0, if_neg h1]
        by_cases hm : mayB h (maskL l) i.toNat = true
        · rw [if_pos hm]
          refine wit_open hx hy hp is _ (List.mem_append_left _ hxl) fun hc => ?_
          rcases List.mem_append.1 hc with h2 | h2
          · exact hyl h2
          · rw [← List.mem_singleton.1 h2] at hm
            unfold mayB at hm
            rw [Bool.and_eq_true, Bool.and_eq_true] at hm
            have h3 := free_iff.1 hm.1.2 x hx hp
            rw [maskL_bit, decide_eq_true hxl] at h3
            cases h3
        · rw [if_neg hm]
theorem wit_long {h : List Opn} : ∀ (is : List Int) (l : List Nat), freeK (maskL l) h.length < is.length → witM h is l = false
  | [], l, hf => by simp at hf
  | i :: is, l, hf => by
    rw [witM]
    by_cases h0 : i < 0
    · rw [if_pos h0]
    · by_cases h1 : (h.length : Int) ≤ i
      · rw [if_neg h0, if_pos h1]
      · rw [if_neg h0, if_neg h1]
        by_cases hm : mayB h (maskL l) i.toNat = true
        · rw [if_pos hm]
          have h2 := freeK_add (may_bit hm) (show i.toNat < h.length by omega)
          refine wit_long is _ ?_
          rw [maskL_snoc]
          simp only [List.length_cons] at hf
          omega
        · rw [if_neg hm]
theorem wit_same {h : List Opn} (hw : Well h) : ∀ (is : List Int) (l : List Nat), Begins h l → witM h is l = witL h is l
  | [], l, _ => rfl
  | i :: is, l, hb => by
    rw [witM, witL]
    by_cases h0 : i < 0
    · rw [if_pos h0, if_pos h0]
    · by_cases h1 : (h.length : Int) ≤ i
      · rw [if_neg h0, if_pos h1, if_neg h0, if_pos h1]
      · rw [if_neg h0, if_neg h1, if_neg h0, if_neg h1]
        have hx : i.toNat < h.length := by omega
        by_cases hn : nextB h l i.toNat = true
        · rw [if_pos (next_may hw hb hx hn), if_pos hn]
          exact wit_same hw is _ (hb.snoc hx hn)
        · rw [if_neg hn]
          by_cases hm : mayB h (maskL l) i.toNat = true
          · rw [if_pos hm]
            have : ∃ y, y < h.length ∧ prI h y i.toNat = true ∧ y ∉ l := Classical.byContradiction fun hc => hn (may_next hw hb hx hm fun y hy hp => Classical.byContradiction fun hq => hc ⟨y, hy, hp, hq⟩)
            obtain ⟨y, hy, hp, hyl⟩ := this
            refine wit_open hx hy hp is _ (by simp) fun hc => ?_
            rcases List.mem_append.1 hc with h2 | h2
            · exact hyl h2
            · rw [List.mem_singleton.1 h2, pr_irrefl hw hx] at hp; cases hp
          · rw [if_neg hm]
/-- The program's witness of a well-formed history is the reference's. -/
theorem wit_all {h : List Opn} (hw : Well h) (is : List Int) : rwitB h is = witM h is [] := by
  unfold rwitB
  rw [well_yes hw, Bool.true_and]
  by_cases hl : is.length ≤ h.length
  · rw [decide_eq_true hl, Bool.true_and, wit_same hw is [] (Begins.nil h)]
  · rw [decide_eq_false hl, Bool.false_and]
    refine (wit_long is [] ?_).symm
    have := freeK_le (maskL []) h.length
    omega
/-- What a read saw, by the program's test. -/
theorem sees_set {h : List Opn} (hw : Well h) {m x : Nat} (hx : x < h.length) {S L : List Str} (hS : ∀ s, s ∈ S ↔ s ∈ seesL h m) (hL : L.Nodup) (hLS : ∀ s, s ∈ L ↔ s ∈ S) :
    seesB h m (nth h x) = true ↔ (seeO (nth h x)).length = L.length ∧ ∀ s ∈ seeO (nth h x), s ∈ S := by
  have hinc : (seeO (nth h x)).Pairwise (· < ·) := of_decide_eq_true (form_of (hw.1 _ (nth_mem hx))).2.2.2.2.1
  have hso := sortS_inc (sees_nodup hw m)
  have hmem : ∀ s, s ∈ sortS (seesL h m) ↔ s ∈ S := fun s => (sortS_perm _).mem_iff.trans (hS s).symm
  have hlen : (sortS (seesL h m)).length = L.length := Nat.le_antisymm (nodup_le (inc_nodup hso) fun s hs => (hLS s).2 ((hmem s).1 hs)) (nodup_le hL fun s hs => (hmem s).2 ((hLS s).1 hs))
  unfold seesB
  rw [decide_eq_true_iff]
  constructor
  · intro e
    rw [← e]
    exact ⟨hlen, fun s hs => (hmem s).1 hs⟩
  · rintro ⟨h1, h2⟩
    have hsub : ∀ s ∈ seeO (nth h x), s ∈ sortS (seesL h m) := fun s hs => (hmem s).2 (h2 s hs)
    refine sorted_unique _ _ hso hinc fun s => ⟨fun hs => ?_, hsub s⟩
    refine Classical.byContradiction fun hn => ?_
    have h3 : (s :: seeO (nth h x)).Nodup := List.nodup_cons.2 ⟨hn, inc_nodup hinc⟩
    have h4 := nodup_le h3 (L := sortS (seesL h m)) fun y hy => by
      rcases List.mem_cons.1 hy with rfl | h5
      · exact hs
      · exact hsub y h5
    rw [List.length_cons, hlen, h1] at h4
    omega
end Go.Proofs.Ytgaolgfjbgflgaa
