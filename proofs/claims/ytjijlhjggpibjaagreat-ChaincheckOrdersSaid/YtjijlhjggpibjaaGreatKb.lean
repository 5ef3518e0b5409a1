/-
  Chapter 55, plain: without a reason against it the order by level, kind, begin and index is a linearization.
-/
import Derived.Test.YtjijlhjggpibjaaGreatKa
namespace Go.Proofs.YtjijlhjggpibjaaGreat

/-- The reads that show an update. -/
def showers (h : List Opn) (u : Nat) : List Nat := (List.range h.length).filter fun r => decide (RdI h r) && decide (ShowI h r u)
def bigL (h : List Opn) : Nat := ((List.range h.length).map fun r => (seeO (nth h r)).length).sum + 1
def minL : List Nat → Nat → Nat
  | [], b => b
  | a :: l, b => min a (minL l b)
theorem minL_le {b : Nat} : ∀ {l : List Nat} {x : Nat}, x ∈ l → minL l b ≤ x
  | a :: l, x, hx => by
    unfold minL
    rcases List.mem_cons.1 hx with rfl | h
    · omega
    · have := minL_le (b := b) h; omega
theorem minL_base {b : Nat} : ∀ l : List Nat, minL l b ≤ b
  | [] => Nat.le_refl _
  | a :: l => by have := minL_base (b := b) l; unfold minL; omega
theorem minL_mem {b : Nat} : ∀ l : List Nat, minL l b = b ∨ minL l b ∈ l
  | [] => .inl rfl
  | a :: l => by
    unfold minL
    rcases minL_mem (b := b) l with h | h
    · rw [h]
      by_cases e : a ≤ b
      · right; rw [Nat.min_eq_left e]; simp
      · left; omega
    · by_cases e : a ≤ minL l b
      · right; rw [Nat.min_eq_left e]; simp
      · right; rw [Nat.min_eq_right (by omega)]; simp [h]
theorem sum_ge : ∀ {l : List Nat} {x : Nat}, x ∈ l → x ≤ l.sum
  | a :: l, x, hx => by
    rw [List.sum_cons]
    rcases List.mem_cons.1 hx with rfl | h
    · omega
    · have := sum_ge h; omega
theorem see_big {h : List Opn} {r : Nat} (hr : r < h.length) : (seeO (nth h r)).length < bigL h := by
  unfold bigL
  have := sum_ge (List.mem_map_of_mem (f := fun r => (seeO (nth h r)).length) (List.mem_range.2 hr))
  omega
/-- The level: of a read the size of its set, of an update the least size of a set that shows it. -/
def levI (h : List Opn) (i : Nat) : Nat := if kindO (nth h i) = 1 then minL ((showers h i).map fun r => (seeO (nth h r)).length) (bigL h) else (seeO (nth h i)).length
def keyLt (h : List Opn) (i k : Nat) : Prop := levI h i < levI h k ∨ (levI h i = levI h k ∧ (kindO (nth h i) < kindO (nth h k) ∨ (kindO (nth h i) = kindO (nth h k) ∧ (begO (nth h i) < begO (nth h k) ∨ (begO (nth h i) = begO (nth h k) ∧ i < k)))))
instance (h : List Opn) (i k : Nat) : Decidable (keyLt h i k) := inferInstanceAs (Decidable (_ ∨ _))
theorem keyLt_asymm {h : List Opn} {i k : Nat} (h1 : keyLt h i k) : ¬ keyLt h k i := by unfold keyLt at *; omega
theorem keyLt_trans {h : List Opn} {i j k : Nat} (h1 : keyLt h i j) (h2 : keyLt h j k) : keyLt h i k := by unfold keyLt at *; omega
theorem keyLt_tri (h : List Opn) (i k : Nat) : keyLt h i k ∨ i = k ∨ keyLt h k i := by unfold keyLt; omega
/-- Which operations belong to the order. -/
def incI (h : List Opn) (i : Nat) : Bool := decide (RdI h i) || (decide (UpI h i) && (decide (0 ≤ endO (nth h i)) || !(showers h i).isEmpty))
def ordI (h : List Opn) : List Nat := ((List.range h.length).filter (incI h)).mergeSort fun i k => decide (¬ keyLt h k i)
theorem ordI_perm (h : List Opn) : (ordI h).Perm ((List.range h.length).filter (incI h)) := List.mergeSort_perm _ _
theorem mem_ordI {h : List Opn} {i : Nat} : i ∈ ordI h ↔ i < h.length ∧ incI h i = true := by
  rw [(ordI_perm h).mem_iff, List.mem_filter, List.mem_range]
theorem ordI_nodup (h : List Opn) : (ordI h).Nodup := (ordI_perm h).nodup_iff.2 (List.Pairwise.filter _ List.nodup_range)
theorem ordI_sorted (h : List Opn) : (ordI h).Pairwise (keyLt h) := by
  have h1 := List.pairwise_mergeSort (le := fun i k => decide (¬ keyLt h k i)) (fun a b c h1 h2 => by
      rw [decide_eq_true_eq] at *
      rcases keyLt_tri h a b with h3 | h3 | h3
      · rcases keyLt_tri h b c with h4 | h4 | h4
        · exact keyLt_asymm (keyLt_trans h3 h4)
        · subst h4; exact keyLt_asymm h3
        · exact absurd h4 h2
      · subst h3; exact h2
      · exact absurd h3 h1) (fun a b => by
      rw [Bool.or_eq_true, decide_eq_true_eq, decide_eq_true_eq]
      by_cases h1 : keyLt h b a
      · exact .inr (keyLt_asymm h1)
      · exact .inl h1) ((List.range h.length).filter (incI h))
  have h2 : (ordI h).Pairwise (· ≠ ·) := ordI_nodup h
  refine (h1.and h2).imp fun {a b} ⟨h3, h4⟩ => ?_
  rcases keyLt_tri h a b with h5 | h5 | h5
  · exact h5
  · exact absurd h5 h4
  · exact absurd h5 (of_decide_eq_true h3)
theorem mem_showers {h : List Opn} {u r : Nat} : r ∈ showers h u ↔ r < h.length ∧ RdI h r ∧ ShowI h r u := by
  unfold showers
  rw [List.mem_filter, List.mem_range, Bool.and_eq_true, decide_eq_true_iff, decide_eq_true_iff]
theorem lev_read {h : List Opn} {r : Nat} (hr : RdI h r) : levI h r = (seeO (nth h r)).length := by
  unfold levI
  rw [if_neg (by rw [hr.1]; decide)]
theorem lev_up {h : List Opn} {u : Nat} (hu : UpI h u) : levI h u = minL ((showers h u).map fun r => (seeO (nth h r)).length) (bigL h) := if_pos hu
theorem lev_le {h : List Opn} {u r : Nat} (hu : UpI h u) (hr : r < h.length) (rr : RdI h r) (hs : ShowI h r u) : levI h u ≤ levI h r := by
  rw [lev_up hu, lev_read rr]
  exact minL_le (List.mem_map.2 ⟨r, mem_showers.2 ⟨hr, rr, hs⟩, rfl⟩)
theorem lev_by {h : List Opn} {u r : Nat} (hu : UpI h u) (hr : r < h.length) (rr : RdI h r) (hle : levI h u ≤ levI h r) : ∃ q, q < h.length ∧ RdI h q ∧ ShowI h q u ∧ levI h q = levI h u := by
  rw [lev_up hu, lev_read rr] at hle
  rcases minL_mem (b := bigL h) ((showers h u).map fun r => (seeO (nth h r)).length) with h1 | h1
  · have := see_big hr
    rw [h1] at hle; omega
  · obtain ⟨q, hq, he⟩ := List.mem_map.1 h1
    obtain ⟨h2, h3, h4⟩ := mem_showers.1 hq
    exact ⟨q, h2, h3, h4, by rw [lev_read h3, lev_up hu]; exact he⟩
section
variable {h : List Opn}
theorem see_nodup (hw : Well h) {r : Nat} (hr : r < h.length) : (seeO (nth h r)).Nodup := by
  have h1 : (seeO (nth h r)).Pairwise (· < ·) := of_decide_eq_true (form_of (hw.1 _ (nth_mem hr))).2.2.2.2.1
  exact h1.imp fun {a b} h2 (e : a = b) => slt_irrefl b (by rw [e] at h2; exact h2)
theorem nodup_len_le {α : Type} [DecidableEq α] : ∀ {b L : List α}, b.Nodup → (∀ x ∈ b, x ∈ L) → b.length ≤ L.length
  | [], _, _, _ => Nat.zero_le _
  | x :: b, L, hn, hs => by
    rw [List.nodup_cons] at hn
    have h1 : ∀ y ∈ b, y ∈ L.erase x := fun y hy => (List.mem_erase_of_ne (by rintro rfl; exact hn.1 hy)).2 (hs y (List.mem_cons_of_mem _ hy))
    have h2 := nodup_len_le hn.2 h1
    have h3 := List.length_erase_of_mem (hs x (List.mem_cons_self ..))
    have h4 : 0 < L.length := List.length_pos_of_mem (hs x (List.mem_cons_self ..))
    rw [List.length_cons]; omega
theorem nodup_full {α : Type} [DecidableEq α] {b L : List α} (hb : b.Nodup) (hs : ∀ x ∈ b, x ∈ L) (hl : L.length ≤ b.length) : ∀ x ∈ L, x ∈ b := by
  intro x hx
  refine Classical.byContradiction fun hn => ?_
  have h1 : (x :: b).Nodup := List.nodup_cons.2 ⟨hn, hb⟩
  have h2 := nodup_len_le h1 (L := L) fun y hy => by
    rcases List.mem_cons.1 hy with rfl | h3
    · exact hx
    · exact hs y h3
  rw [List.length_cons] at h2
  omega
/-- Among comparable sets the smaller one lies within the greater one. -/
theorem within_lev (hw : Well h) (hn : NoReason h) {r q : Nat} (hr : r < h.length) (hq : q < h.length) (rr : RdI h r) (rq : RdI h q) (hle : levI h r ≤ levI h q) : WithI h r q := by
  rw [lev_read rr, lev_read rq] at hle
  rcases hn.chain r q hr hq rr rq with h1 | h1
  · exact h1
  · exact nodup_full (see_nodup hw hq) h1 hle
theorem lev_within (hw : Well h) {r q : Nat} (hr : r < h.length) (rr : RdI h r) (rq : RdI h q) (hwi : WithI h r q) : levI h r ≤ levI h q := by
  rw [lev_read rr, lev_read rq]
  exact nodup_len_le (see_nodup hw hr) hwi
theorem show_lev (hw : Well h) (hn : NoReason h) {u r : Nat} (hr : r < h.length) (uu : UpI h u) (rr : RdI h r) (hle : levI h u ≤ levI h r) : ShowI h r u := by
  obtain ⟨q, h1, h2, h3, h4⟩ := lev_by uu hr rr hle
  have h5 := within_lev hw hn h1 hr h2 rr (by omega)
  exact fun s hs => h5 s (h3 s hs)
/-- Precedence agrees with the keys. -/
theorem key_prec (hw : Well h) (hn : NoReason h) {i k : Nat} (hi : i < h.length) (hk : k < h.length) (ii : incI h i = true) (kk : incI h k = true) (hp : prI h i k = true) : keyLt h i k := by
  have hk2 : ∀ {j}, incI h j = true → UpI h j ∨ RdI h j := fun {j} hj => by
    unfold incI at hj
    rw [Bool.or_eq_true, Bool.and_eq_true, decide_eq_true_iff, decide_eq_true_iff] at hj
    rcases hj with h1 | h1
    · exact .inr h1
    · exact .inl h1.1
  have hend := pr_end hw hi hp
  have hfi := form_of (hw.1 _ (nth_mem hi))
  have hbeg : begO (nth h i) < begO (nth h k) := by omega
  unfold keyLt
  rcases hk2 ii with ui | ri
  · rcases hk2 kk with uk | rk
    · have hle : levI h i ≤ levI h k := by
        by_cases hs : ∃ r, r < h.length ∧ RdI h r ∧ ShowI h r k ∧ levI h r = levI h k
        · obtain ⟨r, h1, h2, h3, h4⟩ := hs
          rw [← h4]
          exact lev_le ui h1 h2 (hn.swapped i k r hi hk h1 ui uk h2 hp h3)
        · rw [lev_up uk]
          rcases minL_mem (b := bigL h) ((showers h k).map fun r => (seeO (nth h r)).length) with h1 | h1
          · rw [h1, lev_up ui]; exact minL_base _
          · obtain ⟨q, hq, he⟩ := List.mem_map.1 h1
            obtain ⟨h2, h3, h4⟩ := mem_showers.1 hq
            exact absurd ⟨q, h2, h3, h4, by rw [lev_read h3, lev_up uk]; exact he⟩ hs
      have hki : kindO (nth h i) = kindO (nth h k) := Eq.trans (show kindO (nth h i) = 1 from ui) (Eq.symm (show kindO (nth h k) = 1 from uk))
      omega
    · have h1 := lev_le ui hk rk (hn.late i k hi hk ui rk hp)
      have hki : kindO (nth h i) = 1 := ui
      have hkk : kindO (nth h k) = 2 := rk.1
      omega
  · rcases hk2 kk with uk | rk
    · left
      refine Nat.lt_of_not_le fun hle => ?_
      exact hn.early i k hi hk ri uk hp (show_lev hw hn hi uk ri hle)
    · have h1 := lev_within hw hi ri rk (hn.back i k hi hk ri rk hp)
      have hki : kindO (nth h i) = 2 := ri.1
      have hkk : kindO (nth h k) = 2 := rk.1
      omega
/-- The order is a linearization. -/
theorem ordI_lin (hw : Well h) (hn : NoReason h) : LinD h (ordI h) where
  nodup := ordI_nodup h
  lt := fun i hi => (mem_ordI.1 hi).1
  kind := fun i hi => by
    have hj := (mem_ordI.1 hi).2
    unfold incI at hj
    rw [Bool.or_eq_true, Bool.and_eq_true, decide_eq_true_iff, decide_eq_true_iff] at hj
    rcases hj with h1 | h1
    · exact .inr h1
    · exact .inl h1.1
  all := fun i hi he => by
    refine mem_ordI.2 ⟨hi, ?_⟩
    unfold incI
    rcases (form_of (hw.1 _ (nth_mem hi))).2.2.2.2.2 with h1 | h1
    · rw [decide_eq_true (show UpI h i from h1.1), decide_eq_true he]; simp
    · rw [decide_eq_true (show RdI h i from ⟨h1.1, he⟩)]; rfl
  prec := by
    refine List.Pairwise.imp_of_mem (fun {a b} ha hb hab => ?_) (ordI_sorted h)
    refine Bool.eq_false_iff.2 fun hp => ?_
    obtain ⟨a1, a2⟩ := mem_ordI.1 ha
    obtain ⟨b1, b2⟩ := mem_ordI.1 hb
    exact keyLt_asymm hab (key_prec hw hn b1 a1 b2 a2 hp)
  sees := fun p r s he rr x => by
    have hrm : r ∈ ordI h := by rw [he]; simp
    have hr := (mem_ordI.1 hrm).1
    have hso := ordI_sorted h
    rw [he] at hso
    have hpre : ∀ u ∈ p, keyLt h u r := fun u hu => (List.pairwise_append.1 hso).2.2 u hu r (by simp)
    have hpost : ∀ u ∈ s, keyLt h r u := fun u hu => (List.pairwise_cons.1 (List.pairwise_append.1 hso).2.1).1 u hu
    constructor
    · intro hx
      obtain ⟨u, hu, uu, hxu⟩ := hn.known r hr rr x hx
      have hsh := hn.whole r u hr hu rr uu ⟨x, hxu, hx⟩
      have hlt : keyLt h u r := by
        have h1 := lev_le uu hr rr hsh
        have h2 : kindO (nth h u) = 1 := uu
        have h3 : kindO (nth h r) = 2 := rr.1
        unfold keyLt; omega
      have hum : u ∈ ordI h := by
        refine mem_ordI.2 ⟨hu, ?_⟩
        unfold incI
        have hne : (showers h u).isEmpty = false := by
          rw [Bool.eq_false_iff]
          intro h4
          rw [List.isEmpty_iff] at h4
          have := mem_showers.2 ⟨hr, rr, hsh⟩
          rw [h4] at this; cases this
        rw [decide_eq_true uu, hne]; simp
      rw [he] at hum
      rcases List.mem_append.1 hum with h5 | h5
      · exact ⟨u, h5, uu, hxu⟩
      · rcases List.mem_cons.1 h5 with h6 | h6
        · subst h6; exact absurd hlt (keyLt_asymm hlt)
        · exact absurd hlt (keyLt_asymm (hpost u h6))
    · rintro ⟨u, hu, uu, hxu⟩
      have h1 := hpre u hu
      have hle : levI h u ≤ levI h r := by unfold keyLt at h1; omega
      exact show_lev hw hn hr uu rr hle x hxu
end
end Go.Proofs.YtjijlhjggpibjaaGreat
