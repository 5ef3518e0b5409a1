/-
  Chapter 56, plain: sets of operations as masks, which operation may be the next one, the number of continuations.
-/
import Derived.Test.YtjijlhjggpibjaaGreatJb
namespace Go.Proofs.YtjijlhjggpibjaaGreat

def dfO : Opn := (0, 0, 0, 0, [], [])
def nth (h : List Opn) (i : Nat) : Opn := h.getD i dfO
theorem nth_eq {h : List Opn} {i : Nat} (hi : i < h.length) : nth h i = h[i] := by unfold nth; rw [List.getD_eq_getElem?_getD, List.getElem?_eq_getElem hi]; rfl
theorem nth_mem {h : List Opn} {i : Nat} (hi : i < h.length) : nth h i ∈ h := by rw [nth_eq hi]; exact List.getElem_mem hi

def addM (m i : Nat) : Nat := m ||| 2 ^ i
theorem addM_bit (m i j : Nat) : (addM m i).testBit j = (m.testBit j || decide (i = j)) := by unfold addM; rw [Nat.testBit_or, Nat.testBit_two_pow]
theorem addM_lt {m i n : Nat} (hm : m < 2 ^ n) (hi : i < n) : addM m i < 2 ^ n := Nat.or_lt_two_pow hm (Nat.pow_lt_pow_right (by omega) hi)
theorem bit_lt {m n i : Nat} (hm : m < 2 ^ n) (hb : m.testBit i = true) : i < n := by
  rcases Nat.lt_or_ge i n with h | h
  · exact h
  · have : m < 2 ^ i := Nat.lt_of_lt_of_le hm (Nat.pow_le_pow_right (by omega) h)
    rw [Nat.testBit_lt_two_pow this] at hb; cases hb
def maskP (P : Nat → Bool) : Nat → Nat
  | 0 => 0
  | k + 1 => if P k = true then addM (maskP P k) k else maskP P k
theorem maskP_bit (P : Nat → Bool) : ∀ (k j : Nat), (maskP P k).testBit j = (decide (j < k) && P j)
  | 0, j => by simp [maskP]
  | k + 1, j => by
    unfold maskP
    by_cases hp : P k = true
    · rw [if_pos hp, addM_bit, maskP_bit P k j]
      by_cases hj : k = j
      · subst hj; simp [hp]
      · rw [decide_eq_false hj, Bool.or_false]
        congr 1
        rw [decide_eq_decide]; omega
    · rw [if_neg hp, maskP_bit P k j]
      by_cases hj : j = k
      · subst hj; simp [hp]
      · congr 1
        rw [decide_eq_decide]; omega
theorem maskP_lt (P : Nat → Bool) : ∀ k, maskP P k < 2 ^ k
  | 0 => by simp [maskP]
  | k + 1 => by
    have h1 := maskP_lt P k
    have h2 : maskP P k < 2 ^ (k + 1) := Nat.lt_of_lt_of_le h1 (Nat.pow_le_pow_right (by omega) (by omega))
    unfold maskP
    split
    · exact addM_lt h2 (by omega)
    · exact h2

/-- Operation i precedes operation k. -/
def prI (h : List Opn) (i k : Nat) : Bool := precB (nth h i) (nth h k)
def doneB (h : List Opn) (m : Nat) : Bool := (List.range h.length).all fun i => decide (endO (nth h i) < 0) || m.testBit i
def seesL (h : List Opn) (m : Nat) : List Str := ((List.range h.length).filter fun i => m.testBit i).flatMap fun i => addO (nth h i)
def sortS (xs : List Str) : List Str := xs.mergeSort fun x y => decide (x ≤ y)
def seesB (h : List Opn) (m : Nat) (x : Opn) : Bool := decide (sortS (seesL h m) = seeO x)
def freeB (h : List Opn) (m i : Nat) : Bool := (List.range h.length).all fun k => !(prI h i k && m.testBit k)
def mayB (h : List Opn) (m i : Nat) : Bool := !m.testBit i && freeB h m i && (decide (kindO (nth h i) = 1) || (decide (0 ≤ endO (nth h i)) && seesB h m (nth h i)))
theorem done_iff {h : List Opn} {m : Nat} : doneB h m = true ↔ ∀ i, i < h.length → 0 ≤ endO (nth h i) → m.testBit i = true := by
  unfold doneB
  rw [List.all_eq_true]
  constructor
  · intro hd i hi he
    have := hd i (List.mem_range.2 hi)
    rw [decide_eq_false (by omega), Bool.false_or] at this
    exact this
  · intro hd i hi
    rw [List.mem_range] at hi
    by_cases he : endO (nth h i) < 0
    · rw [decide_eq_true he, Bool.true_or]
    · rw [hd i hi (by omega), Bool.or_true]
theorem free_iff {h : List Opn} {m i : Nat} : freeB h m i = true ↔ ∀ k, k < h.length → prI h i k = true → m.testBit k = false := by
  unfold freeB
  rw [List.all_eq_true]
  constructor
  · intro hd k hk hp
    have := hd k (List.mem_range.2 hk)
    rw [hp, Bool.true_and, Bool.not_eq_true'] at this
    exact this
  · intro hd k hk
    rw [List.mem_range] at hk
    cases hp : prI h i k with
    | false => rfl
    | true => rw [hd k hk hp]; rfl
theorem may_bit {h : List Opn} {m i : Nat} (hm : mayB h m i = true) : m.testBit i = false := by
  unfold mayB at hm
  rw [Bool.and_eq_true, Bool.and_eq_true, Bool.not_eq_true'] at hm
  exact hm.1.1
theorem may_free {h : List Opn} {m i : Nat} (hm : mayB h m i = true) : freeB h m i = true := by
  unfold mayB at hm
  rw [Bool.and_eq_true, Bool.and_eq_true] at hm
  exact hm.1.2

def cnt (h : List Opn) : Nat → Nat → Nat
  | 0, _ => 0
  | f + 1, m => (if doneB h m = true then 1 else 0) + ((List.range h.length).map fun i => if mayB h m i = true then cnt h f (addM m i) else 0).sum
def freeK (m : Nat) : Nat → Nat
  | 0 => 0
  | k + 1 => freeK m k + if m.testBit k = true then 0 else 1
theorem freeK_le (m : Nat) : ∀ k, freeK m k ≤ k
  | 0 => Nat.le_refl _
  | k + 1 => by have := freeK_le m k; unfold freeK; split <;> omega
theorem freeK_far {m i : Nat} : ∀ {k}, k ≤ i → freeK (addM m i) k = freeK m k
  | 0, _ => rfl
  | k + 1, hk => by
    unfold freeK
    rw [freeK_far (by omega), addM_bit, decide_eq_false (by omega), Bool.or_false]
theorem freeK_add {m i : Nat} (hb : m.testBit i = false) : ∀ {k}, i < k → freeK (addM m i) k + 1 = freeK m k
  | k + 1, hk => by
    unfold freeK
    by_cases he : i = k
    · subst he
      rw [freeK_far (Nat.le_refl _), addM_bit, hb]; simp
    · have := freeK_add hb (k := k) (by omega)
      rw [addM_bit, decide_eq_false he, Bool.or_false]
      omega
theorem cnt_more (h : List Opn) : ∀ (f m : Nat), freeK m h.length < f → cnt h (f + 1) m = cnt h f m
  | 0, m, hf => by omega
  | f + 1, m, hf => by
    rw [cnt, cnt]
    congr 1
    congr 1
    apply List.map_congr_left
    intro i hi
    rw [List.mem_range] at hi
    by_cases hm : mayB h m i = true
    · rw [if_pos hm, if_pos hm]
      refine cnt_more h f _ ?_
      have := freeK_add (may_bit hm) hi
      omega
    · rw [if_neg hm, if_neg hm]
theorem cnt_enough (h : List Opn) (m : Nat) : ∀ f, freeK m h.length < f → cnt h f m = cnt h (freeK m h.length + 1) m
  | 0, hf => by omega
  | f + 1, hf => by
    by_cases he : f = freeK m h.length
    · rw [he]
    · rw [cnt_more h f m (by omega), cnt_enough h m f (by omega)]
/-- The number of continuations of a set. -/
def C (h : List Opn) (m : Nat) : Nat := cnt h (h.length + 1) m
theorem C_of (h : List Opn) (m f : Nat) (hf : freeK m h.length < f) : cnt h f m = C h m := by
  unfold C
  rw [cnt_enough h m f hf, cnt_enough h m (h.length + 1) (by have := freeK_le m h.length; omega)]
theorem C_eq (h : List Opn) (m : Nat) : C h m = (if doneB h m = true then 1 else 0) + ((List.range h.length).map fun i => if mayB h m i = true then C h (addM m i) else 0).sum := by
  rw [← C_of h m (h.length + 2) (by have := freeK_le m h.length; omega), cnt]
  congr 2
theorem sum_pos : ∀ {l : List Nat}, 0 < l.sum ↔ ∃ x ∈ l, 0 < x
  | [] => by simp
  | a :: l => by
    rw [List.sum_cons]
    have := sum_pos (l := l)
    constructor
    · intro h0
      by_cases ha : 0 < a
      · exact ⟨a, by simp, ha⟩
      · obtain ⟨x, hx, h1⟩ := this.1 (by omega)
        exact ⟨x, by simp [hx], h1⟩
    · rintro ⟨x, hx, h1⟩
      rcases List.mem_cons.1 hx with rfl | hx
      · omega
      · have := this.2 ⟨x, hx, h1⟩; omega
/-- A set can be continued. -/
def G (h : List Opn) (m : Nat) : Bool := decide (0 < C h m)
theorem G_iff {h : List Opn} {m : Nat} : G h m = true ↔ doneB h m = true ∨ ∃ i, i < h.length ∧ mayB h m i = true ∧ G h (addM m i) = true := by
  unfold G
  rw [decide_eq_true_iff, C_eq]
  by_cases hd : doneB h m = true
  · rw [if_pos hd]
    exact ⟨fun _ => .inl hd, fun _ => by omega⟩
  · rw [if_neg hd, Nat.zero_add, sum_pos]
    constructor
    · rintro ⟨x, hx, h1⟩
      obtain ⟨i, hi, rfl⟩ := List.mem_map.1 hx
      by_cases hm : mayB h m i = true
      · rw [if_pos hm] at h1
        exact .inr ⟨i, List.mem_range.1 hi, hm, decide_eq_true h1⟩
      · rw [if_neg hm] at h1; omega
    · rintro (h1 | ⟨i, hi, hm, h1⟩)
      · exact absurd h1 hd
      · exact ⟨_, List.mem_map.2 ⟨i, List.mem_range.2 hi, rfl⟩, by rw [if_pos hm]; exact of_decide_eq_true h1⟩
/-- The operation by which a set is continued first. -/
def goB (h : List Opn) (m i : Nat) : Bool := mayB h m i && G h (addM m i)
def nextI (h : List Opn) (m : Nat) : Nat := ((List.range h.length).find? fun i => goB h m i).getD 0
theorem find_range {P : Nat → Bool} {n k : Nat} (hk : k < n) (hp : P k = true) (hn : ∀ j, j < k → P j = false) : (List.range n).find? P = some k := by
  obtain ⟨m, rfl⟩ : ∃ m, n = k + 1 + m := ⟨n - k - 1, by omega⟩
  rw [List.find?_eq_some_iff_append]
  refine ⟨hp, List.range k, (List.range m).map (k + 1 + ·), ?_, fun j hj => by simp at hj; simp [hn j hj]⟩
  rw [List.range_add, List.range_succ, List.append_assoc]; rfl
theorem nextI_at {h : List Opn} {m k : Nat} (hk : k < h.length) (hp : goB h m k = true) (hn : ∀ j, j < k → goB h m j = false) : nextI h m = k := by
  unfold nextI; rw [find_range hk hp hn]; rfl
theorem G_no {h : List Opn} {m : Nat} (hd : doneB h m = false) (hn : ∀ j, j < h.length → goB h m j = false) : G h m = false := by
  cases hg : G h m with
  | false => rfl
  | true =>
    rcases G_iff.1 hg with h1 | ⟨i, hi, h1, h2⟩
    · rw [hd] at h1; cases h1
    · have := hn i hi
      unfold goB at this
      rw [h1, h2] at this; cases this
theorem G_go {h : List Opn} {m k : Nat} (hk : k < h.length) (hp : goB h m k = true) : G h m = true := by
  unfold goB at hp
  rw [Bool.and_eq_true] at hp
  exact G_iff.2 (.inr ⟨k, hk, hp.1, hp.2⟩)
/-- The first continuation of a set. -/
def path (h : List Opn) : Nat → Nat → List Nat
  | 0, _ => []
  | f + 1, m => if doneB h m = true then [] else nextI h m :: path h f (addM m (nextI h m))

/-- A set without something that precedes one of its operations cannot be continued. -/
theorem cnt_open {h : List Opn} (hw : ∀ x ∈ h, formB x = true) : ∀ (f m i y : Nat), i < h.length → y < h.length → m.testBit i = true → m.testBit y = false → prI h y i = true → cnt h f m = 0
  | 0, _, _, _, _, _, _, _, _ => rfl
  | f + 1, m, i, y, hi, hy, bi, by_, hp => by
    rw [cnt, if_neg, Nat.zero_add]
    · have : ∀ x ∈ (List.range h.length).map (fun i => if mayB h m i = true then cnt h f (addM m i) else 0), x = 0 := by
        intro x hx
        obtain ⟨k, hk, rfl⟩ := List.mem_map.1 hx
        rw [List.mem_range] at hk
        by_cases hm : mayB h m k = true
        · rw [if_pos hm]
          have hky : ¬ k = y := by
            rintro rfl
            have := free_iff.1 (may_free hm) i hi hp
            rw [bi] at this; cases this
          exact cnt_open hw f _ i y hi hy (by rw [addM_bit, bi]; rfl) (by rw [addM_bit, by_, decide_eq_false hky]; rfl) hp
        · rw [if_neg hm]
      exact List.sum_eq_zero_iff_forall_eq_nat.2 this
    · intro hd
      have h1 := prec_of hp
      have h2 := form_of (hw _ (nth_mem hy))
      have := done_iff.1 hd y hy (by omega)
      rw [by_] at this; cases this
end Go.Proofs.YtjijlhjggpibjaaGreat
