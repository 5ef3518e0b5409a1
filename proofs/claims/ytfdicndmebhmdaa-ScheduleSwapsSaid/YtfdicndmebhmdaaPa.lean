/-
  Chapter 29, plain: events, dependence, what a search knows of a trace.
-/
import Derived.Test.YtfdicndmebhmdaaLb
namespace Go.Proofs.Ytfdicndmebhmdaa

/-- An event: its name, what it uses. -/
abbrev Ev := Int × List Int
def depE (a b : Ev) : Bool := a.1 == b.1 || a.2.any fun n => decide (n ∈ b.2)
theorem depE_iff {a b : Ev} : depE a b = true ↔ a.1 = b.1 ∨ ∃ n, n ∈ a.2 ∧ n ∈ b.2 := by
  unfold depE
  simp
theorem depE_comm (a b : Ev) : depE a b = depE b a := by
  rw [Bool.eq_iff_iff, depE_iff, depE_iff]
  constructor
  · rintro (h | ⟨n, h1, h2⟩)
    · exact .inl h.symm
    · exact .inr ⟨n, h2, h1⟩
  · rintro (h | ⟨n, h1, h2⟩)
    · exact .inl h.symm
    · exact .inr ⟨n, h2, h1⟩
theorem depE_self (a : Ev) : depE a a = true := depE_iff.2 (.inl rfl)
def nthE (t : List Ev) (i : Nat) : Ev := t.getD i (0, [])
theorem nthE_eq {t : List Ev} {i : Nat} (h : i < t.length) : nthE t i = t[i] := by simp [nthE, List.getD, h]
def depI (t : List Ev) (i k : Nat) : Bool := depE (nthE t i) (nthE t k)

/-- How many earlier events on which it depends are not placed. -/
def wtE (t : List Ev) (us : Nat → Bool) (k : Nat) : Nat := (List.range k).countP fun j => !us j && depI t j k
def sucE (t : List Ev) (i : Nat) : List Nat := (List.range t.length).filter fun k => decide (i < k) && depI t i k
def rdyB (t : List Ev) (us : Nat → Bool) (i : Nat) : Bool := !us i && (wtE t us i == 0)
def rdyL (t : List Ev) (us : Nat → Bool) : List Nat := (List.range t.length).filter (rdyB t us)
def setU (us : Nat → Bool) (i : Nat) (b : Bool) : Nat → Bool := fun j => if j = i then b else us j
def noU : Nat → Bool := fun _ => false
theorem setU_at (us : Nat → Bool) (i : Nat) (b : Bool) : setU us i b i = b := if_pos rfl
theorem setU_ne {us : Nat → Bool} {i j : Nat} {b : Bool} (h : j ≠ i) : setU us i b j = us j := if_neg h
theorem setU_back {us : Nat → Bool} {i : Nat} (h : us i = false) : setU (setU us i true) i false = us := by
  funext j
  unfold setU
  by_cases e : j = i
  · subst e; rw [if_pos rfl, h]
  · rw [if_neg e, if_neg e]
theorem mem_sucE {t : List Ev} {i k : Nat} : k ∈ sucE t i ↔ i < k ∧ k < t.length ∧ depI t i k = true := by
  unfold sucE
  simp only [List.mem_filter, List.mem_range, Bool.and_eq_true, decide_eq_true_eq]
  exact ⟨fun ⟨a, b, c⟩ => ⟨b, a, c⟩, fun ⟨a, b, c⟩ => ⟨b, a, c⟩⟩
theorem mem_rdyL {t : List Ev} {us : Nat → Bool} {i : Nat} : i ∈ rdyL t us ↔ i < t.length ∧ rdyB t us i = true := by
  unfold rdyL
  simp only [List.mem_filter, List.mem_range]
theorem rdyB_iff {t : List Ev} {us : Nat → Bool} {i : Nat} : rdyB t us i = true ↔ us i = false ∧ ∀ j, j < i → us j = false → depI t j i = false := by
  unfold rdyB wtE
  rw [Bool.and_eq_true, beq_iff_eq, List.countP_eq_zero, Bool.not_eq_true']
  refine and_congr_right fun _ => ⟨fun h j hj hu => ?_, fun h j hj => ?_⟩
  · have := h j (List.mem_range.2 hj)
    rw [hu] at this
    simpa using this
  · simp only [Bool.and_eq_true, Bool.not_eq_true', not_and]
    intro hu
    rw [h j (List.mem_range.1 hj) hu]; simp

theorem countP_one {p q : Nat → Bool} {i : Nat} (hp : p i = true) (hq : q i = false) (hs : ∀ j, j ≠ i → p j = q j) : ∀ {k : Nat}, i < k → (List.range k).countP p = (List.range k).countP q + 1
  | 0, h => absurd h (by omega)
  | k + 1, h => by
    rw [List.range_succ, List.countP_append, List.countP_append]
    by_cases e : i = k
    · subst e
      have : (List.range i).countP p = (List.range i).countP q := List.countP_congr fun j hj => by
        rw [hs j (by have := List.mem_range.1 hj; omega)]
      rw [this, List.countP_cons, List.countP_cons, hp, hq]; simp
    · rw [countP_one hp hq hs (show i < k by omega), List.countP_cons, List.countP_cons, List.countP_nil, List.countP_nil, hs k (fun e' => e e'.symm)]
      omega
theorem wt_on {t : List Ev} {us : Nat → Bool} {i k : Nat} (hu : us i = false) (hk : i < k) (hd : depI t i k = true) : wtE t us k = wtE t (setU us i true) k + 1 := by
  unfold wtE
  refine countP_one (i := i) (by rw [hu, hd]; rfl) (by rw [setU_at]; rfl) (fun j hj => by rw [setU_ne hj]) hk
theorem wt_off {t : List Ev} {us : Nat → Bool} {i k : Nat} (hu : us i = true) (hk : i < k) (hd : depI t i k = true) : wtE t (setU us i false) k = wtE t us k + 1 := by
  unfold wtE
  refine countP_one (i := i) (by rw [setU_at, hd]; rfl) (by rw [hu]; rfl) (fun j hj => by rw [setU_ne hj]) hk
theorem wt_same {t : List Ev} {us : Nat → Bool} {i k : Nat} {b : Bool} (h : ¬ (i < k ∧ depI t i k = true)) : wtE t (setU us i b) k = wtE t us k := by
  unfold wtE
  refine List.countP_congr fun j hj => ?_
  have hj := List.mem_range.1 hj
  by_cases e : j = i
  · subst e
    have : depI t j k = false := Bool.eq_false_iff.2 fun hd => h ⟨hj, hd⟩
    rw [this]; simp
  · rw [setU_ne e]
theorem wt_le (t : List Ev) (us : Nat → Bool) (k : Nat) : wtE t us k ≤ k := Nat.le_trans List.countP_le_length (by simp)

/-- Waits while an event is placed or taken back: the first q of those that follow it are done. -/
def wtQ (t : List Ev) (us : Nat → Bool) (i : Nat) (b : Bool) (q : Nat) (k : Nat) : Nat := if k ∈ (sucE t i).take q then wtE t (setU us i b) k else wtE t us k
theorem wtQ_zero (t : List Ev) (us : Nat → Bool) (i : Nat) (b : Bool) : wtQ t us i b 0 = wtE t us := by
  funext k; unfold wtQ; rw [if_neg (by simp)]
theorem sucE_nodup (t : List Ev) (i : Nat) : (sucE t i).Nodup := List.nodup_range.filter _
theorem wtQ_all (t : List Ev) (us : Nat → Bool) (i : Nat) (b : Bool) {k : Nat} (hk : k < t.length) : wtQ t us i b (sucE t i).length k = wtE t (setU us i b) k := by
  unfold wtQ
  rw [List.take_of_length_le (Nat.le_refl _)]
  by_cases h : k ∈ sucE t i
  · rw [if_pos h]
  · rw [if_neg h]
    exact (wt_same fun ⟨h1, h2⟩ => h (mem_sucE.2 ⟨h1, hk, h2⟩)).symm
theorem take_get_not {l : List Nat} (hn : l.Nodup) {q : Nat} (hq : q < l.length) : l[q] ∉ l.take q := by
  intro h
  obtain ⟨j, hj, he⟩ := List.mem_iff_getElem.1 h
  rw [List.length_take] at hj
  rw [List.getElem_take] at he
  exact (List.pairwise_iff_getElem.1 hn) j q (by omega) hq (by omega) he
theorem wtQ_at {t : List Ev} {us : Nat → Bool} {i : Nat} {b : Bool} {q : Nat} (hq : q < (sucE t i).length) : wtQ t us i b q (sucE t i)[q] = wtE t us (sucE t i)[q] := by
  unfold wtQ
  rw [if_neg (take_get_not (sucE_nodup t i) hq)]
theorem wtQ_succ {t : List Ev} {us : Nat → Bool} {i : Nat} {b : Bool} {q : Nat} (hq : q < (sucE t i).length) (k : Nat) :
    wtQ t us i b (q + 1) k = if k = (sucE t i)[q] then wtE t (setU us i b) k else wtQ t us i b q k := by
  unfold wtQ
  rw [List.take_succ_eq_append_getElem hq]
  by_cases e : k = (sucE t i)[q]
  · rw [if_pos e, if_pos (List.mem_append.2 (.inr (List.mem_singleton.2 e)))]
  · rw [if_neg e]
    have : k ∈ (sucE t i).take q ++ [(sucE t i)[q]] ↔ k ∈ (sucE t i).take q := by
      rw [List.mem_append, List.mem_singleton]
      exact ⟨fun h => h.elim id fun h => absurd h e, .inl⟩
    by_cases h : k ∈ (sucE t i).take q
    · rw [if_pos (this.2 h), if_pos h]
    · rw [if_neg (fun h' => h (this.1 h')), if_neg h]

/-- A row of n cells. -/
def rowF (n : Nat) (g : Nat → Value) : Array Value := ((List.range n).map g).toArray
theorem rowF_size (n : Nat) (g : Nat → Value) : (rowF n g).size = n := by simp [rowF]
theorem rowF_get {n : Nat} {g : Nat → Value} {k : Nat} (h : k < n) : (rowF n g)[k]? = some (g k) := by simp [rowF, h]
theorem rowF_congr {n : Nat} {g g' : Nat → Value} (h : ∀ k, k < n → g k = g' k) : rowF n g = rowF n g' := by
  unfold rowF
  congr 1
  exact List.map_congr_left fun k hk => h k (List.mem_range.1 hk)
theorem rowF_set {n : Nat} {g : Nat → Value} (k : Nat) (v : Value) : (rowF n g).setIfInBounds k v = rowF n (fun j => if j = k then v else g j) := by
  have key : ∀ (g : Nat → Value) (j : Nat), (rowF n g)[j]? = if j < n then some (g j) else none := fun g j => by
    by_cases h : j < n
    · rw [if_pos h, rowF_get h]
    · rw [if_neg h, Array.getElem?_eq_none (by rw [rowF_size]; omega)]
  apply Array.ext_getElem?
  intro j
  rw [Array.getElem?_setIfInBounds, key, key, rowF_size]
  by_cases e : k = j
  · subst e
    rw [if_pos rfl]
    by_cases h : k < n
    · rw [if_pos h, if_pos h, if_pos rfl]
    · rw [if_neg h, if_neg h]
  · rw [if_neg e]
    by_cases h : j < n
    · rw [if_pos h, if_pos h, if_neg (fun e' => e e'.symm)]
    · rw [if_neg h, if_neg h]

def nmI (t : List Ev) (i : Nat) : Int := (nthE t i).1
theorem dep_of_name {t : List Ev} {i k : Nat} (h : nmI t i = nmI t k) : depI t i k = true := depE_iff.2 (.inl h)
/-- Two events that may come next are independent, so their names differ. -/
theorem rdy_name {t : List Ev} {us : Nat → Bool} {i k : Nat} (hi : rdyB t us i = true) (hk : rdyB t us k = true) (hne : i ≠ k) : nmI t i ≠ nmI t k := by
  intro h
  rcases Nat.lt_or_gt_of_ne hne with hl | hl
  · have := (rdyB_iff.1 hk).2 i hl (rdyB_iff.1 hi).1
    rw [dep_of_name h] at this; cases this
  · have := (rdyB_iff.1 hi).2 k hl (rdyB_iff.1 hk).1
    rw [dep_of_name h.symm] at this; cases this
/-- Into a list sorted by name. -/
def insN (t : List Ev) (i : Nat) : List Nat → List Nat
  | [] => [i]
  | a :: l => if nmI t i ≤ nmI t a then i :: a :: l else a :: insN t i l
theorem insN_perm (t : List Ev) (i : Nat) : ∀ l : List Nat, (insN t i l).Perm (i :: l)
  | [] => .refl _
  | a :: l => by
    unfold insN
    split
    · exact .refl _
    · exact ((insN_perm t i l).cons a).trans (List.Perm.swap i a l)
theorem insN_sorted (t : List Ev) (i : Nat) : ∀ {l : List Nat}, (l.Pairwise fun a b => nmI t a ≤ nmI t b) → (insN t i l).Pairwise fun a b => nmI t a ≤ nmI t b
  | [], _ => List.pairwise_singleton _ _
  | a :: l, h => by
    unfold insN
    have h' := List.pairwise_cons.1 h
    split
    · rename_i hle
      refine List.pairwise_cons.2 ⟨fun b hb => ?_, h⟩
      rcases List.mem_cons.1 hb with e | e
      · subst e; exact hle
      · exact Int.le_trans hle (h'.1 b e)
    · rename_i hgt
      refine List.pairwise_cons.2 ⟨fun b hb => ?_, insN_sorted t i h'.2⟩
      rcases List.mem_cons.1 ((insN_perm t i l).mem_iff.1 hb) with e | e
      · subst e; omega
      · exact h'.1 b e
/-- The events that may come next, increasing by name. -/
def rdyS (t : List Ev) (us : Nat → Bool) : List Nat := (rdyL t us).foldr (insN t) []
theorem rdyS_perm (t : List Ev) (us : Nat → Bool) : (rdyS t us).Perm (rdyL t us) := by
  unfold rdyS
  induction rdyL t us with
  | nil => exact .refl _
  | cons a l ih => exact (insN_perm t a _).trans (ih.cons a)
theorem mem_rdyS {t : List Ev} {us : Nat → Bool} {i : Nat} : i ∈ rdyS t us ↔ i < t.length ∧ rdyB t us i = true := by rw [(rdyS_perm t us).mem_iff, mem_rdyL]
theorem rdyS_sorted (t : List Ev) (us : Nat → Bool) : (rdyS t us).Pairwise fun a b => nmI t a ≤ nmI t b := by
  unfold rdyS
  induction rdyL t us with
  | nil => exact .nil
  | cons a l ih => exact insN_sorted t a ih
theorem rdyL_nodup (t : List Ev) (us : Nat → Bool) : (rdyL t us).Nodup := List.nodup_range.filter _
theorem rdyS_nodup (t : List Ev) (us : Nat → Bool) : (rdyS t us).Nodup := (rdyS_perm t us).nodup_iff.2 (rdyL_nodup t us)
theorem rdyS_strict (t : List Ev) (us : Nat → Bool) : (rdyS t us).Pairwise fun a b => nmI t a < nmI t b := by
  refine List.Pairwise.imp_of_mem ?_ ((rdyS_sorted t us).and (rdyS_nodup t us))
  intro a b ha hb ⟨h1, h2⟩
  have := rdy_name (mem_rdyS.1 ha).2 (mem_rdyS.1 hb).2 h2
  omega
theorem sorted_one {R : Nat → Nat → Prop} (hR : ∀ a b, R a b → ¬ R b a) : ∀ {l m : List Nat}, l.Pairwise R → m.Pairwise R → (∀ x, x ∈ l ↔ x ∈ m) → l = m
  | [], [], _, _, _ => rfl
  | [], y :: m, _, _, h => by have := (h y).2 (List.mem_cons_self ..); cases this
  | x :: l, [], _, _, h => by have := (h x).1 (List.mem_cons_self ..); cases this
  | x :: l, y :: m, hl, hm, h => by
    rw [List.pairwise_cons] at hl hm
    have hxy : x = y := by
      rcases List.mem_cons.1 ((h x).1 (List.mem_cons_self ..)) with e | e
      · exact e
      · rcases List.mem_cons.1 ((h y).2 (List.mem_cons_self ..)) with e' | e'
        · exact e'.symm
        · exact absurd (hl.1 y e') (hR _ _ (hm.1 x e))
    subst hxy
    have hxl : x ∉ l := fun hx => hR _ _ (hl.1 x hx) (hl.1 x hx)
    have hxm : x ∉ m := fun hx => hR _ _ (hm.1 x hx) (hm.1 x hx)
    rw [sorted_one hR hl.2 hm.2 fun z => ⟨fun hz => ?_, fun hz => ?_⟩]
    · rcases List.mem_cons.1 ((h z).1 (List.mem_cons_of_mem _ hz)) with e | e
      · subst e; exact absurd hz hxl
      · exact e
    · rcases List.mem_cons.1 ((h z).2 (List.mem_cons_of_mem _ hz)) with e | e
      · subst e; exact absurd hz hxm
      · exact e
/-- What a sort by name gives of them. -/
theorem rdy_sort {t : List Ev} {us : Nat → Bool} {l : List Nat} (hp : l.Perm (rdyL t us)) (hs : l.Pairwise fun a b => ¬ nmI t b < nmI t a) : l = rdyS t us := by
  have hnd : l.Nodup := hp.nodup_iff.2 (rdyL_nodup t us)
  refine sorted_one (R := fun a b => nmI t a < nmI t b) (fun a b h => by omega) ?_ (rdyS_strict t us) fun x => by rw [hp.mem_iff, (rdyS_perm t us).mem_iff]
  refine List.Pairwise.imp_of_mem ?_ (hs.and hnd)
  intro a b ha hb ⟨h1, h2⟩
  have := rdy_name (mem_rdyL.1 (hp.mem_iff.1 ha)).2 (mem_rdyL.1 (hp.mem_iff.1 hb)).2 h2
  omega
/-- While not all are placed, one may come next. -/
theorem rdy_some {t : List Ev} {us : Nat → Bool} (h : ∃ i, i < t.length ∧ us i = false) : rdyS t us ≠ [] := by
  have key : ∀ n i, i < n → i < t.length → us i = false → ∃ j, j < t.length ∧ rdyB t us j = true := by
    intro n
    induction n with
    | zero => intro i h; omega
    | succ n ih =>
      intro i hn hi hu
      by_cases hd : ∃ j, j < i ∧ us j = false
      · obtain ⟨j, hj, hu'⟩ := hd
        exact ih j (by omega) (by omega) hu'
      · exact ⟨i, hi, rdyB_iff.2 ⟨hu, fun j hj hu' => absurd ⟨j, hj, hu'⟩ hd⟩⟩
  obtain ⟨i, hi, hu⟩ := h
  obtain ⟨j, hj, hr⟩ := key (i + 1) i (by omega) hi hu
  intro e
  have := mem_rdyS.2 ⟨hj, hr⟩
  rw [e] at this; cases this

/-- The order of the normal form, from a state on. -/
def normGo (t : List Ev) : Nat → (Nat → Bool) → List Nat
  | 0, _ => []
  | n + 1, us => (rdyS t us).headD 0 :: normGo t n (setU us ((rdyS t us).headD 0) true)
def normI (t : List Ev) : List Nat := normGo t t.length noU
def normE (t : List Ev) : List Ev := (normI t).map (nthE t)
/-- All orders, from a state on, lexicographically by names. -/
def linsGo (t : List Ev) : Nat → (Nat → Bool) → List (List Nat)
  | 0, _ => [[]]
  | n + 1, us => (rdyS t us).flatMap fun i => (linsGo t n (setU us i true)).map (i :: ·)
def linsI (t : List Ev) : List (List Nat) := linsGo t t.length noU
end Go.Proofs.Ytfdicndmebhmdaa
