/-
  Appending a read slice of ints to an own row, and where the new slice lies.
  Chapter 55: the view of a history in memory.
  Chapter 55: look.
  Chapter 55: which updates a read shows, what precedes what, asked of a view.
  Chapter 55: ranging over a set; within.
-/
import Derived.Test.YtjijlhjggpibjaaGreatAp2
import Derived.Maps.AppendAt
import Derived.Test.YtjijlhjggpibjaaGreatVe
import Derived.Test.YtjijlhjggpibjaaGreatKa
import Derived.Laws.MakeOwn
import Derived.Laws.EntriesVeiled
import Derived.Test.YtjijlhjggpibjaaGreatRg
import Derived.Maps.RangeWalk
namespace Go.Proofs.YtjijlhjggpibjaaGreat
open Go.RowKit

theorem appendi_at {ops : Array Oper} {rest : List Oper} {o : Oper} {a : Act} {w : World} {Q : Exit → Act → World → Prop} (hgd : o.guard = none) (s x : Operand)
    (ho : o.op = .call { callee := .builtin .append, args := #[s, x], argTypes := #[25, 25] })
    (base : Nat) (v u : Value) (n : Nat) (xs ys : List Int) (hs : a.eval s = v) (hown : w.ownsRow base 3 1 v n (xs.map vi)) (hx : a.eval x = u) (hu : Reads vi w u ys) (hlen : n + ys.length ≤ 1000000) (hbase : base ≤ w.heap.size)
    (h : ∀ v' w', w'.ownsRow base 3 1 v' (n + ys.length) ((xs ++ ys).map vi) → w.grownBy w' v.ownBlock → (v'.ownBlock = v.ownBlock ∨ v'.ownBlock = some w.heap.size) → wpList Tryz.prog ops Q rest (a.put o.dst v') w') : wpList Tryz.prog ops Q (o :: rest) a w := by
  obtain ⟨i0, hinf, hz0, hz1, hz2⟩ := info_parts Tryz.infoInt1
  obtain ⟨au, c, rfl, hl⟩ := hu
  have hu : Reads vi w (.slice au ys.length c) ys := ⟨au, c, rfl, hl⟩
  cases au with
  | none =>
    obtain ⟨h0, hc, rfl⟩ := Reads.none hu
    subst hc
    refine wpList_append_own_none hgd s x 25 ho base 3 i0 1 Tryz.underlying25 hinf v n (xs.map vi) hs hown hx ?_
    exact h v w (by simpa using hown) (grown_refl _ _) (.inl rfl)
  | some au =>
    obtain ⟨_, hc⟩ := src_cells hu
    refine wpList_append_own_at w hgd s x 25 ho base 3 i0 (.int .i64 0) 1 8 Tryz.underlying25 hinf hz0 hz1 hz2 rfl (by decide) v n (xs.map vi) hs hown au ys.length c (ys.map vi) hx (by simp) hc (one_vi _) (by unfold maxLen; omega) (by omega) hbase ?_
    intro v' w' h1 h2 _ h3
    exact h v' w' (by rw [List.map_append]; exact h1) h2 h3
/-- Two rows of the call's own that lie apart. -/
def Apart (u v : Value) : Prop := ∀ k, u.ownBlock = some k → v.ownBlock ≠ some k
theorem Apart.symm {u v : Value} (h : Apart u v) : Apart v u := fun k hk hu => h k hu hk
theorem Apart.ne {u v : Value} (h : Apart u v) : v.ownBlock = Option.none ∨ v.ownBlock ≠ u.ownBlock := by
  cases hv : v.ownBlock with
  | none => exact .inl rfl
  | some k => exact .inr fun e => h k e.symm hv
theorem Apart.new {w : World} {base n N : Nat} {e : TypeId} {s : Nat} {u v v' : Value} {xs : List Value} (h : Apart v u) (hu : w.ownsRow base e s u n xs) (hw : w.heap.size ≤ N) (hv : v'.ownBlock = v.ownBlock ∨ v'.ownBlock = some N) : Apart v' u := by
  intro k hk he
  rcases hv with h1 | h1
  · exact h k (h1 ▸ hk) he
  · rw [h1] at hk
    injection hk with hk
    have := (hu.lt k he).2
    omega
end Go.Proofs.YtjijlhjggpibjaaGreat
namespace Go.Proofs.YtjijlhjggpibjaaGreat
open Go.RowKit Go.Maps

def ownD (v : Value) : Option Int := match v with
  | .int .i64 n => some n
  | _ => none
/-- map[string]int. -/
noncomputable def ownT : MapTy Str Int where
  t := 43
  k := 9
  e := 3
  kd := string_keyed Tryz.underlying9
  ht := Tryz.underlying43
  kv := fun s => .string (toB s)
  kl := fun s => .string s
  ok := fun s => s.length ≤ maxLen
  hkey := fun _ h => keyStr h
  klit := fun _ => trivial
  kinj := fun s s' h => by injection h
  V := fun n => .int .i64 n
  dec := ownD
  Dt := fun n => .lit (.int .i64 n)
  dV := fun _ => rfl
  Vd := fun v a h => by
    unfold ownD at h
    split at h
    · injection h with h; subst h; rfl
    · cases h
  Dinj := fun a b h => by
    injection h with h
    injection h
  z0 := 0
  hz := fun w => Tryz.zeroValue3 w
def insM (M : Str → Option Int) (l : List Str) (a : Int) : Str → Option Int := l.foldl (fun M s => updM M s a) M
theorem insM_snoc (M : Str → Option Int) (l : List Str) (s : Str) (a : Int) : insM M (l ++ [s]) a = updM (insM M l a) s a := by unfold insM; rw [List.foldl_append]; rfl
theorem insM_some (a : Int) : ∀ (l : List Str) (M : Str → Option Int) (s : Str), (insM M l a s).isSome = true ↔ (M s).isSome = true ∨ s ∈ l
  | [], M, s => by simp [insM]
  | x :: l, M, s => by
    have ih := insM_some a l (updM M x a) s
    show (insM (updM M x a) l a s).isSome = true ↔ _
    rw [ih]
    by_cases e : s = x
    · subst e
      rw [updM_same]; simp
    · rw [updM_other _ _ e]; simp [e]
/-- Which identities have an owner. -/
def ownK (h : List Opn) : Nat → Str → Option Int
  | 0 => fun _ => none
  | k + 1 => if UpI h k then insM (ownK h k) (addO (nth h k)) (k : Int) else ownK h k
theorem ownK_some (h : List Opn) (s : Str) : ∀ k, (ownK h k s).isSome = true ↔ ∃ u, u < k ∧ UpI h u ∧ s ∈ addO (nth h u)
  | 0 => by
    constructor
    · intro h; cases h
    · rintro ⟨u, hu, _⟩; omega
  | k + 1 => by
    have ih := ownK_some h s k
    unfold ownK
    by_cases hu : UpI h k
    · rw [if_pos hu, insM_some, ih]
      constructor
      · rintro (⟨u, h1, h2, h3⟩ | h1)
        · exact ⟨u, by omega, h2, h3⟩
        · exact ⟨k, by omega, hu, h1⟩
      · rintro ⟨u, h1, h2, h3⟩
        by_cases e : u = k
        · subst e; exact .inr h3
        · exact .inl ⟨u, by omega, h2, h3⟩
    · rw [if_neg hu, ih]
      constructor
      · rintro ⟨u, h1, h2, h3⟩
        exact ⟨u, by omega, h2, h3⟩
      · rintro ⟨u, h1, h2, h3⟩
        have : ¬ u = k := by rintro rfl; exact hu h2
        exact ⟨u, by omega, h2, h3⟩
def rdK (h : List Opn) (k : Nat) : List Nat := (List.range k).filter fun i => decide (RdI h i)
def upK (h : List Opn) (k : Nat) : List Nat := (List.range k).filter fun i => decide (UpI h i)
theorem rdK_snoc (h : List Opn) (k : Nat) : rdK h (k + 1) = rdK h k ++ if RdI h k then [k] else [] := by
  unfold rdK
  rw [List.range_succ, List.filter_append]
  congr 1
  by_cases e : RdI h k <;> simp [e]
theorem upK_snoc (h : List Opn) (k : Nat) : upK h (k + 1) = upK h k ++ if UpI h k then [k] else [] := by
  unfold upK
  rw [List.range_succ, List.filter_append]
  congr 1
  by_cases e : UpI h k <;> simp [e]
theorem rdK_len (h : List Opn) (k : Nat) : (rdK h k).length ≤ k := by unfold rdK; exact Nat.le_trans (List.length_filter_le _ _) (by simp)
theorem upK_len (h : List Opn) (k : Nat) : (upK h k).length ≤ k := by unfold upK; exact Nat.le_trans (List.length_filter_le _ _) (by simp)
theorem mem_rdK {h : List Opn} {k i : Nat} : i ∈ rdK h k ↔ i < k ∧ RdI h i := by unfold rdK; rw [List.mem_filter, List.mem_range, decide_eq_true_iff]
theorem mem_upK {h : List Opn} {k i : Nat} : i ∈ upK h k ↔ i < k ∧ UpI h i := by unfold upK; rw [List.mem_filter, List.mem_range, decide_eq_true_iff]
/-- The cells of the sets. -/
def msA (ms : Nat → Option Nat) (n : Nat) : Array Value := ((List.range n).map fun i => Value.map (ms i)).toArray
theorem msA_at {ms : Nat → Option Nat} {n i : Nat} (h : i < n) : (msA ms n)[i]? = some (.map (ms i)) := by simp [msA, h]
def updS {α : Type} (ms : Nat → α) (k : Nat) (b : α) : Nat → α := fun i => if i = k then b else ms i
theorem updS_same {α : Type} (ms : Nat → α) (k : Nat) (b : α) : updS ms k b k = b := if_pos rfl
theorem updS_other {α : Type} (ms : Nat → α) {k i : Nat} (b : α) (h : ¬ i = k) : updS ms k b i = ms i := if_neg h
theorem updS_twice {α : Type} (ms : Nat → α) (k : Nat) (a b : α) : updS (updS ms k a) k b = updS ms k b := by
  funext i
  unfold updS
  split <;> rfl
theorem msA_set {ms : Nat → Option Nat} {n k : Nat} (_ : k < n) (b : Nat) : (msA ms n).setIfInBounds k (.map (some b)) = msA (updS ms k (some b)) n := by
  apply Array.ext
  · simp [msA]
  · intro j h1 h2
    have hj : j < n := by simpa [msA] using h2
    rw [Array.getElem_setIfInBounds (by simpa [msA] using hj)]
    by_cases e : k = j
    · subst e; simp [msA, updS]
    · rw [if_neg e]
      have : ¬ j = k := fun q => e q.symm
      simp [msA, updS, this]
theorem msA_none (n : Nat) : madeCells #[.map none] n = msA (fun _ => none) n := by
  apply Array.ext
  · simp [madeCells, msA]
  · intro j h1 h2
    simp [madeCells, msA, Nat.mod_one]
theorem SetB.at_ {w w' : World} {b n : Nat} {S : List Str} (h : SetB w b n S) (hb : w'.heap[b]? = w.heap[b]?) : SetB w' b n S := by
  obtain ⟨D, ⟨es, clock, h1, h2⟩, h3⟩ := h
  exact ⟨D, ⟨es, clock, by rw [hb]; exact h1, h2⟩, h3⟩
theorem SetB.no_row {w : World} {b n m base s : Nat} {S : List Str} {e : TypeId} {v : Value} {xs : List Value} (h : SetB w b n S) (hr : w.ownsRow base e s v m xs) : some b ≠ v.ownBlock := by
  obtain ⟨D, ⟨es, clock, h1, h2⟩, h3⟩ := h
  rcases hr.2 with ⟨rfl, _⟩ | ⟨g, cap, cur, rfl, _, hg, _⟩
  · simp [Value.ownBlock]
  · intro e
    simp [Value.ownBlock] at e
    subst e
    rw [hg] at h1
    injection h1 with h1
    cases h1
/-- Indices as ints. -/
def intsNN (l : List Nat) : List Int := l.map fun (i : Nat) => (i : Int)
theorem intsNN_snoc (l : List Nat) (x : Nat) : intsNN (l ++ [x]) = intsNN l ++ [(x : Int)] := by simp [intsNN]
/-- The view while it is being made: owner at g, sets at g + 1, the view at g + 2, all else behind. -/
structure Vw (W w : World) (hv : Value) (n g : Nat) (vr vu : Value) (lr lu : List Nat) (M : Str → Option Int) (nM : Nat) (ms : Nat → Option Nat) (S : Nat → List Str) : Prop where
  bel : Below W.heap.size W w
  hg : W.heap.size ≤ g
  view : Blk w (g + 2) 46 #[hv, vr, vu, .map (some g), .slice (some ⟨g + 1, 0, none⟩) n n]
  rr : w.ownsRow (g + 3) 3 1 vr lr.length ((intsNN lr).map vi)
  ru : w.ownsRow (g + 3) 3 1 vu lu.length ((intsNN lu).map vi)
  ap : Apart vr vu
  own : MapAt ownT w g nM M
  sees : Blk w (g + 1) 47 (msA ms n)
  sets : ∀ i b, ms i = some b → g + 3 ≤ b ∧ SetB w b (S i).length (S i)
  inj : ∀ i j b, ms i = some b → ms j = some b → i = j
section
variable {W w w' : World} {hv : Value} {n g : Nat} {vr vu : Value} {lr lu : List Nat} {M : Str → Option Int} {nM : Nat} {ms : Nat → Option Nat} {S : Nat → List Str}
theorem Vw.on (h : Vw W w hv n g vr vu lr lu M nM ms S) (hb : Below w.heap.size w w') : Vw W w' hv n g vr vu lr lu M nM ms S where
  bel := h.bel.trans (hb.mono h.bel.size)
  hg := h.hg
  view := h.view.on hb
  rr := below_row h.rr hb
  ru := below_row h.ru hb
  ap := h.ap
  own := h.own.on hb
  sees := h.sees.on hb
  sets := fun i b hi => ⟨(h.sets i b hi).1, (h.sets i b hi).2.on hb⟩
  inj := h.inj
/-- An index more in the row of the updates. -/
theorem Vw.moreU (h : Vw W w hv n g vr vu lr lu M nM ms S) {x : Nat} {v' : Value} (hr : w'.ownsRow (g + 3) 3 1 v' (lu.length + 1) ((intsNN lu ++ [(x : Int)]).map vi)) (hgr : w.grownBy w' vu.ownBlock) (hat : v'.ownBlock = vu.ownBlock ∨ v'.ownBlock = some w.heap.size) :
    Vw W (w'.setCell ⟨g + 2, 2, none⟩ v') hv n g vr v' lr (lu ++ [x]) M nM ms S := by
  have hlow : ∀ b, b < g + 3 → w'.heap[b]? = w.heap[b]? := fun b hb => hgr.block b (by have := h.view.lt; omega) (fun e => by have := (h.ru.lt b e.symm).1; omega)
  have hnot : ∀ b, g + 3 ≤ b → (w'.setCell ⟨g + 2, 2, none⟩ v').heap[b]? = w'.heap[b]? := fun b hb => Below.heap_setCell _ _ _ _ (show ¬ b = g + 2 by omega)
  refine ⟨(h.bel.grown hgr h.bel.size (fun j hj => by have := (h.ru.lt j hj).1; have := h.hg; omega)).setCell (p := ⟨g + 2, 2, none⟩) (show W.heap.size ≤ g + 2 by have := h.hg; omega) _, h.hg, ?_, ?_, ?_, ?_, ?_, ?_, fun i b hi => ⟨(h.sets i b hi).1, ?_⟩, h.inj⟩
  · have h1 : Blk w' (g + 2) 46 #[hv, vr, vu, .map (some g), .slice (some ⟨g + 1, 0, none⟩) n n] := (hlow (g + 2) (by omega)).trans h.view
    exact h1.set_ 2 v'
  · exact ownsRow_setCell_below (h.rr.kept hgr h.ap.symm.ne) (show g + 2 < g + 3 by omega) _
  · rw [List.length_append, List.length_singleton, intsNN_snoc]
    exact ownsRow_setCell_below hr (show g + 2 < g + 3 by omega) _
  · exact (h.ap.symm.new h.rr (Nat.le_refl _) hat).symm
  · exact (h.own.at_ (hlow g (by omega))).at_ (Below.heap_setCell _ _ _ _ (show ¬ g = g + 2 by omega))
  · have h1 : Blk w' (g + 1) 47 (msA ms n) := (hlow (g + 1) (by omega)).trans h.sees
    exact h1.far (show ¬ g + 1 = g + 2 by omega) _
  · have h1 := (h.sets i b hi).2.kept hgr ((h.sets i b hi).2.no_row h.ru)
    exact h1.at_ (hnot b (h.sets i b hi).1)
/-- An index more in the row of the reads. -/
theorem Vw.moreR (h : Vw W w hv n g vr vu lr lu M nM ms S) {x : Nat} {v' : Value} (hr : w'.ownsRow (g + 3) 3 1 v' (lr.length + 1) ((intsNN lr ++ [(x : Int)]).map vi)) (hgr : w.grownBy w' vr.ownBlock) (hat : v'.ownBlock = vr.ownBlock ∨ v'.ownBlock = some w.heap.size) :
    Vw W (w'.setCell ⟨g + 2, 1, none⟩ v') hv n g v' vu (lr ++ [x]) lu M nM ms S := by
  have hlow : ∀ b, b < g + 3 → w'.heap[b]? = w.heap[b]? := fun b hb => hgr.block b (by have := h.view.lt; omega) (fun e => by have := (h.rr.lt b e.symm).1; omega)
  have hnot : ∀ b, g + 3 ≤ b → (w'.setCell ⟨g + 2, 1, none⟩ v').heap[b]? = w'.heap[b]? := fun b hb => Below.heap_setCell _ _ _ _ (show ¬ b = g + 2 by omega)
  refine ⟨(h.bel.grown hgr h.bel.size (fun j hj => by have := (h.rr.lt j hj).1; have := h.hg; omega)).setCell (p := ⟨g + 2, 1, none⟩) (show W.heap.size ≤ g + 2 by have := h.hg; omega) _, h.hg, ?_, ?_, ?_, ?_, ?_, ?_, fun i b hi => ⟨(h.sets i b hi).1, ?_⟩, h.inj⟩
  · have h1 : Blk w' (g + 2) 46 #[hv, vr, vu, .map (some g), .slice (some ⟨g + 1, 0, none⟩) n n] := (hlow (g + 2) (by omega)).trans h.view
    exact h1.set_ 1 v'
  · rw [List.length_append, List.length_singleton, intsNN_snoc]
    exact ownsRow_setCell_below hr (show g + 2 < g + 3 by omega) _
  · exact ownsRow_setCell_below (h.ru.kept hgr h.ap.ne) (show g + 2 < g + 3 by omega) _
  · exact h.ap.new h.ru (Nat.le_refl _) hat
  · exact (h.own.at_ (hlow g (by omega))).at_ (Below.heap_setCell _ _ _ _ (show ¬ g = g + 2 by omega))
  · have h1 : Blk w' (g + 1) 47 (msA ms n) := (hlow (g + 1) (by omega)).trans h.sees
    exact h1.far (show ¬ g + 1 = g + 2 by omega) _
  · have h1 := (h.sets i b hi).2.kept hgr ((h.sets i b hi).2.no_row h.rr)
    exact h1.at_ (hnot b (h.sets i b hi).1)
/-- An owner more. -/
theorem Vw.moreO (h : Vw W w hv n g vr vu lr lu M nM ms S) {M' : Str → Option Int} {nM' : Nat} (hm : MapAt ownT w' g nM' M') (hgr : w.grownBy w' (some g)) : Vw W w' hv n g vr vu lr lu M' nM' ms S where
  bel := h.bel.grown hgr h.bel.size (fun j hj => by injection hj with hj; subst hj; exact h.hg)
  hg := h.hg
  view := (hgr.block _ h.view.lt (fun e => by injection e with e; omega)).trans h.view
  rr := h.rr.kept hgr (.inr fun e => by have := (h.rr.lt g e).1; omega)
  ru := h.ru.kept hgr (.inr fun e => by have := (h.ru.lt g e).1; omega)
  ap := h.ap
  own := hm
  sees := (hgr.block _ h.sees.lt (fun e => by injection e with e; omega)).trans h.sees
  sets := fun i b hi => ⟨(h.sets i b hi).1, (h.sets i b hi).2.kept hgr (fun e => by injection e with e; have := (h.sets i b hi).1; omega)⟩
  inj := h.inj
/-- A new set. -/
theorem Vw.newS (h : Vw W w hv n g vr vu lr lu M nM ms S) {k : Nat} (hk : k < n) :
    Vw W ((w.alloc (.map #[] 0)).setCell ⟨g + 1, k, none⟩ (.map (some w.heap.size))) hv n g vr vu lr lu M nM (updS ms k (some w.heap.size)) (updS S k []) := by
  have hal : Below w.heap.size w (w.alloc (.map #[] 0)) := (Below.refl _ _).alloc (Nat.le_refl _) _
  have h1 := h.on hal
  have hlt := h.view.lt
  refine ⟨h1.bel.setCell (p := ⟨g + 1, k, none⟩) (show W.heap.size ≤ g + 1 by have := h.hg; omega) _, h.hg, h1.view.far (show ¬ g + 2 = g + 1 by omega) _, ownsRow_setCell_below h1.rr (show g + 1 < g + 3 by omega) _, ownsRow_setCell_below h1.ru (show g + 1 < g + 3 by omega) _, h.ap,
    h1.own.setCell (p := ⟨g + 1, k, none⟩) (show ¬ g = g + 1 by omega) _, ?_, fun i b hi => ?_, fun i j b hi hj => ?_⟩
  · rw [← msA_set hk]
    exact h1.sees.set_ k _
  · by_cases e : i = k
    · subst e
      rw [updS_same] at hi
      injection hi with hi
      subst hi
      rw [updS_same]
      exact ⟨by omega, (SetB.made w).at_ (Below.heap_setCell _ _ _ _ (show ¬ w.heap.size = g + 1 by omega))⟩
    · rw [updS_other _ _ e] at hi
      rw [updS_other _ _ e]
      exact ⟨(h.sets i b hi).1, (h1.sets i b hi).2.at_ (Below.heap_setCell _ _ _ _ (show ¬ b = g + 1 by have := (h.sets i b hi).1; omega))⟩
  · have hnew : ∀ i b, ms i = some b → ¬ b = w.heap.size := fun i b hi => by have := (h.sets i b hi).2.lt; omega
    by_cases e1 : i = k
    · by_cases e2 : j = k
      · rw [e1, e2]
      · subst e1
        rw [updS_same] at hi
        rw [updS_other _ _ e2] at hj
        injection hi with hi
        exact absurd hi.symm (hnew j b hj)
    · by_cases e2 : j = k
      · subst e2
        rw [updS_same] at hj
        rw [updS_other _ _ e1] at hi
        injection hj with hj
        exact absurd hj.symm (hnew i b hi)
      · rw [updS_other _ _ e1] at hi
        rw [updS_other _ _ e2] at hj
        exact h.inj i j b hi hj
/-- An element more in a set. -/
theorem Vw.moreS (h : Vw W w hv n g vr vu lr lu M nM ms S) {k b : Nat} (hk : ms k = some b) {s : Str} (hset : SetB w' b ((S k).length + 1) (S k ++ [s])) (hgr : w.grownBy w' (some b)) : Vw W w' hv n g vr vu lr lu M nM ms (updS S k (S k ++ [s])) := by
  have hb := (h.sets k b hk).1
  refine ⟨h.bel.grown hgr h.bel.size (fun j hj => by injection hj with hj; subst hj; have := h.hg; omega), h.hg, (hgr.block _ h.view.lt (fun e => by injection e with e; omega)).trans h.view,
    h.rr.kept hgr (.inr fun e => (h.sets k b hk).2.no_row h.rr e.symm), h.ru.kept hgr (.inr fun e => (h.sets k b hk).2.no_row h.ru e.symm), h.ap, h.own.kept hgr (fun e => by injection e with e; omega), (hgr.block _ h.sees.lt (fun e => by injection e with e; omega)).trans h.sees, fun i c hi => ?_, h.inj⟩
  by_cases e : i = k
  · subst e
    rw [hk] at hi
    injection hi with hi
    subst hi
    rw [updS_same, List.length_append, List.length_singleton]
    exact ⟨hb, hset⟩
  · rw [updS_other _ _ e]
    refine ⟨(h.sets i c hi).1, (h.sets i c hi).2.kept hgr fun e2 => ?_⟩
    injection e2 with e2
    subst e2
    exact e (h.inj i k c hi hk)
end
end Go.Proofs.YtjijlhjggpibjaaGreat
namespace Go.Proofs.YtjijlhjggpibjaaGreat
open Go.RowKit Go.Maps

/-- The view of a history. -/
def ViewR (w : World) (g : Nat) (hv : Value) (h : List Opn) : Prop :=
  ∃ W vr vu nM ms S, Vw W w hv h.length g vr vu (rdK h h.length) (upK h h.length) (ownK h h.length) nM ms S ∧ ∀ i, i < h.length → RdI h i → ∃ b, ms i = some b ∧ S i = seeO (nth h i)
theorem ViewR.on {w w' : World} {g : Nat} {hv : Value} {h : List Opn} (hv' : ViewR w g hv h) (hb : Below w.heap.size w w') : ViewR w' g hv h := by
  obtain ⟨W, vr, vu, nM, ms, S, h1, h2⟩ := hv'
  exact ⟨W, vr, vu, nM, ms, S, h1.on hb, h2⟩
def LookMade (W : World) (v : Value) (h : List Opn) (e : Ending) (w' : World) : Prop := ∃ g, e = .returned (.pointer (some ⟨g + 2, 0, none⟩)) ∧ W.heap.size ≤ g ∧ ViewR w' g v h ∧ Below W.heap.size W w'
theorem Tryz.infoMapB : (Tryz.prog.info? 47).map (fun i => (i.zero, i.size, i.bytes)) = some (some (.map none), 1, 8) := by kernel_rfl
/-- The loop of look. -/
def LkS (W w : World) (v : Value) (h : List Opn) (k : Nat) : Prop :=
  ∃ vr vu nM ms S, Vw W w v h.length W.heap.size vr vu (rdK h k) (upK h k) (ownK h k) nM ms S ∧ (∀ i, i < k → RdI h i → ∃ b, ms i = some b ∧ S i = seeO (nth h i)) ∧ (∀ i, k ≤ i → ms i = none) ∧ nM ≤ 1000 * k
theorem vw_start (W : World) (v : Value) (h : List Opn) : LkS W (((W.alloc (.map #[] 0)).alloc (.cells (msA (fun _ => none) h.length) 47)).alloc (.cells #[v, .slice none 0 0, .slice none 0 0, .map (some W.heap.size), .slice (some ⟨W.heap.size + 1, 0, none⟩) h.length h.length] 46)) v h 0 := by
  have hb : Below W.heap.size W (((W.alloc (.map #[] 0)).alloc (.cells (msA (fun _ => none) h.length) 47)).alloc (.cells #[v, .slice none 0 0, .slice none 0 0, .map (some W.heap.size), .slice (some ⟨W.heap.size + 1, 0, none⟩) h.length h.length] 46)) :=
    (((Below.refl _ _).alloc (Nat.le_refl _) _).alloc (by simp) _).alloc (by simp; omega) _
  refine ⟨_, _, 0, fun _ => none, fun _ => [], ⟨hb, Nat.le_refl _, ?_, World.ownsRow_nil _ _ _ _, World.ownsRow_nil _ _ _ _, (fun k hk => by cases hk), ?_, ?_, (fun i b hi => by cases hi), (fun i j b hi => by cases hi)⟩, (fun i hi => by omega), fun i _ => rfl, by omega⟩
  · have h0 := Blk.new ((W.alloc (.map #[] 0)).alloc (.cells (msA (fun _ => none) h.length) 47)) 46 #[v, .slice none 0 0, .slice none 0 0, .map (some W.heap.size), .slice (some ⟨W.heap.size + 1, 0, none⟩) h.length h.length]
    rwa [World.size_alloc, World.size_alloc] at h0
  · exact ((MapAt.made ownT W).on ((Below.refl _ _).alloc (Nat.le_refl _) _)).on ((Below.refl _ _).alloc (Nat.le_refl _) _)
  · have h0 := Blk.new (W.alloc (.map #[] 0)) 47 (msA (fun _ => none) h.length)
    rw [World.size_alloc] at h0
    exact h0.alloc _
theorem one_readsV (w : World) (o : Obj) (x : Int) : Reads vi ((w.alloc o).alloc (.cells #[.int .i64 x] 3)) (.slice (some ⟨w.heap.size + 1, 0, none⟩) 1 1) [x] := by
  have h0 : ∀ w : World, Reads vi (w.alloc (.cells #[.int .i64 x] 3)) (.slice (some ⟨w.heap.size, 0, none⟩) 1 1) [x] := fun w =>
    Reads.at (xs := [x]) (Nat.le_refl 1) (by unfold maxLen; omega) (by simp) fun j hj => by
      have h0 : j = 0 := by simpa using hj
      subst h0
      exact (Blk.new w 3 #[.int .i64 x]).cell 0
  have h1 := h0 (w.alloc o)
  rwa [World.size_alloc] at h1

set_option maxRecDepth 100000 in
set_option maxHeartbeats 16000000 in
theorem look_any (v : Value) (h : List Opn) (W : World) (hr : ReadsO W v h) (hs : SmallH h) (hw : Well h) : Calls Tryz.prog 15 #[v] W (LookMade W v h) := by
  obtain ⟨i0, hinf, hz0, hz1, hz2⟩ := info_parts Tryz.infoMapB
  have HR := Lib.hid hr
  have HS := Lib.hid hs
  have HW := Lib.hid hw
  have hn := hs.1
  obtain ⟨ao, cap, rfl, hl, hm, -, -⟩ := hr
  unfold maxLen at hm
  clear hs hw
  have hmk : ∀ w1 : World, (Instr.makeSlice 44 (.int .i64 (h.length : Int)) (.int .i64 (h.length : Int))).run Tryz.prog w1 = .ok (.slice (some ⟨w1.heap.size, 0, none⟩) h.length h.length) (w1.alloc (.cells (msA (fun _ => none) h.length) 47)) := fun w1 => by
    have h0 := run_make (P := Tryz.prog) w1 44 47 i0 (.map none) Tryz.underlying44 hinf hz0 .i64 .i64 (h.length : Int) (h.length : Int) (by omega) (Int.le_refl _) (by rw [hz2]; omega) (by omega)
    have e : ((h.length : Nat) : Int).toNat = h.length := by omega
    rw [e] at h0
    have e2 : madeCells (Value.map none).cells (h.length * i0.size) = msA (fun _ => none) h.length := by rw [hz1, Nat.mul_one]; exact msA_none _
    rw [e2] at h0
    exact h0
  have hmk1 := hmk (W.alloc (.map #[] 0))
  clear hinf hz0 hz1 hz2 hmk
  have HST := Lib.hid (vw_start W (.slice ao h.length cap) h)
  go_enter Tryz.func15, Tryz.ntmps15
  go_wp2_with (refine wpList_make_map rfl 43 rfl ?_)
  clear hmk1
  go_loopg [19] h.length (fun m i wr => ∃ k : Nat, m + k = h.length ∧ i = .int .i64 k ∧ LkS W wr (.slice ao h.length cap) h k)
  case atStart => exact ⟨0, by omega, rfl, HST.out⟩
  case round =>
    clear HST
    obtain ⟨k, hmk, rfl, vr, vu, nM, ms, S, hvw, hsets, hnone, hnM⟩ := hrel
    have HM := Lib.hid hmk
    have HV := Lib.hid hvw
    have HSE := Lib.hid hsets
    have HNO := Lib.hid hnone
    have KW := Lib.hid hvw.bel
    have hk : k ≤ h.length := by omega
    have hrl := rdK_len h k
    have hul := upK_len h k
    clear hmk hvw hsets hnone
    by_cases hlt : k < h.length
    · obtain ⟨b, off, cap1, a4, c4, a5, c5, hv, _, _, hm4, hm5, hl4, hl5, hcell, r1, r2⟩ := HR.out.at2 hlt
      injection hv with e1 e2 e3
      subst e1
      have hki : (k : Int) < h.length := by omega
      have hk0 : (0 : Int) ≤ (k : Int) := by omega
      have dd := Lib.hid (hcell wr KW.out)
      have x0 := dd.out.1
      have x1 := dd.out.2.1
      have x2 := dd.out.2.2.1
      have x3 := dd.out.2.2.2.1
      have x4 := dd.out.2.2.2.2.1
      have x5 := dd.out.2.2.2.2.2
      have HNX : Hid (nth h k = h[k]) := Lib.hid (nth_eq hlt)
      have hsm := HS.out.2 _ (List.getElem_mem hlt)
      have hla := hsm.1
      have hls := hsm.2.1
      have HSM := Lib.hid hsm.2.2
      have HN := Lib.hid (And.intro r1 r2)
      have HFO := Lib.hid (form_of (HW.out.1 _ (List.getElem_mem hlt))).2.2.2.2.2
      have HUS := Lib.hid (upK_snoc h k)
      have HRS := Lib.hid (rdK_snoc h k)
      have HOS : Hid (ownK h (k + 1) = if UpI h k then insM (ownK h k) (addO (nth h k)) (k : Int) else ownK h k) := Lib.hid rfl
      have HUP : Hid (UpI h k ↔ kindO h[k] = 1) := Lib.hid (by unfold UpI; rw [HNX.out])
      have HRD : Hid (RdI h k ↔ kindO h[k] = 2 ∧ 0 ≤ endO h[k]) := Lib.hid (by unfold RdI; rw [HNX.out])
      have HXN := Lib.hid (And.intro hlt trivial)
      clear e2 e3 hcell r1 r2 dd hsm
      generalize h[k] = x at *
      rw [HNX.out] at HOS
      have HAL : Hid (∀ o o2, Below wr.heap.size wr ((wr.alloc o).alloc o2)) := Lib.hid fun o o2 => ((Below.refl _ _).alloc (Nat.le_refl _) o).alloc (by simp) o2
      have HAL1 : Hid (∀ o, Below wr.heap.size wr (wr.alloc o)) := Lib.hid fun o => (Below.refl _ _).alloc (Nat.le_refl _) o
      have HONE := Lib.hid (fun o => one_readsV wr o (k : Int))
      have HSZ : Hid (∀ o o2, W.heap.size + 3 ≤ ((wr.alloc o).alloc o2).heap.size) := Lib.hid fun o o2 => by
        have h1 := HV.out.view.lt
        have h2 := (HAL.out o o2).size
        omega
      clear hlt
      by_cases hk1 : kindO x = 1
      · have e1 := beq_iff_eq.2 hk1
        have HU : Hid (UpI h k) := Lib.hid (HUP.out.2 hk1)
        have HNR : Hid (¬ RdI h k) := Lib.hid fun q => by have := (HRD.out.1 q).1; omega
        have HUL : Hid (upK h (k + 1) = upK h k ++ [k]) := Lib.hid (by rw [HUS.out, if_pos HU.out])
        have HRL : Hid (rdK h (k + 1) = rdK h k) := Lib.hid (by rw [HRS.out, if_neg HNR.out, List.append_nil])
        have HOL : Hid (ownK h (k + 1) = insM (ownK h k) (addO x) (k : Int)) := Lib.hid (by rw [HOS.out, if_pos HU.out])
        have HSE2 : Hid (∀ i, i < k + 1 → RdI h i → ∃ b, ms i = some b ∧ S i = seeO (nth h i)) := Lib.hid fun i hi hr => by
          by_cases e : i = k
          · subst e; exact absurd hr HNR.out
          · exact HSE.out i (by omega) hr
        clear hk1 HUP HRD HUS HRS HOS HSE
        generalize addO x = la at *
        have q2 : wr.cell? ⟨W.heap.size + 2, 2, none⟩ = some vu := HV.out.view.cell 2
        have hgl := HV.out.view.lt
        go_wp2_with (at_builtin; refine appendi_at rfl (.tmp 32) (.tmp 34) rfl (W.heap.size + 3) vu (.slice (some ⟨wr.heap.size + 1, 0, none⟩) 1 1) (upK h k).length (intsNN (upK h k)) [(k : Int)] rfl (HV.out.on (HAL.out _ _)).ru rfl (HONE.out _) (by simp; omega) (HSZ.out _ _) ?_)
        intro v8 w8 hown8 hgr8 hat8
        obtain ⟨a8, c8, rfl⟩ := row_slc hown8
        have HV9 := Lib.hid (HV.out.on (HAL.out (.cells #[.int .i64 (cliO x), .int .i64 (kindO x), .int .i64 (begO x), .int .i64 (endO x), .slice a4 la.length c4, .slice a5 (seeO x).length c5] 39) (.cells #[.int .i64 (k : Int)] 3)))
        have HB9 : Hid (Blk ((wr.alloc (.cells #[.int .i64 (cliO x), .int .i64 (kindO x), .int .i64 (begO x), .int .i64 (endO x), .slice a4 la.length c4, .slice a5 (seeO x).length c5] 39)).alloc (.cells #[.int .i64 (k : Int)] 3)) wr.heap.size 39 #[.int .i64 (cliO x), .int .i64 (kindO x), .int .i64 (begO x), .int .i64 (endO x), .slice a4 la.length c4, .slice a5 (seeO x).length c5]) := Lib.hid ((Blk.new wr _ _).alloc _)
        have HLO : Hid (∀ b', b' < ((wr.alloc (.cells #[.int .i64 (cliO x), .int .i64 (kindO x), .int .i64 (begO x), .int .i64 (endO x), .slice a4 la.length c4, .slice a5 (seeO x).length c5] 39)).alloc (.cells #[.int .i64 (k : Int)] 3)).heap.size → (b' < W.heap.size + 3 ∨ b' = wr.heap.size) → w8.heap[b']? = ((wr.alloc (.cells #[.int .i64 (cliO x), .int .i64 (kindO x), .int .i64 (begO x), .int .i64 (endO x), .slice a4 la.length c4, .slice a5 (seeO x).length c5] 39)).alloc (.cells #[.int .i64 (k : Int)] 3)).heap[b']?) := Lib.hid fun b' h1 h2 => hgr8.block b' h1 fun e => by
          have h3 := (HV9.out.ru.lt b' e.symm).1
          have h4 := (HV.out.ru.lt b' e.symm).2
          omega
        have hgl := HV.out.view.lt
        have HV8 : Hid (Vw W (w8.setCell ⟨W.heap.size + 2, 2, none⟩ (.slice a8 ((upK h k).length + 1) c8)) (.slice (some ⟨b, off, none⟩) h.length cap) h.length W.heap.size vr (.slice a8 ((upK h k).length + 1) c8) (rdK h k) (upK h k ++ [k]) (insM (ownK h k) (la.take 0) (k : Int)) nM ms S) := Lib.hid (Vw.moreU HV9.out (by rw [List.map_append]; exact hown8) hgr8 (by simpa using hat8))
        have q2 : w8.cell? ⟨W.heap.size + 2, 2, none⟩ = some vu := (World.cell?_of_block (a := ⟨W.heap.size + 2, 2, none⟩) (HLO.out (W.heap.size + 2) HV9.out.view.lt (.inl (by omega)))).trans (HV9.out.view.cell 2)
        have f2 : w8.frozen? ⟨W.heap.size + 2, 2, none⟩ = false := (World.frozen?_of_block (a := ⟨W.heap.size + 2, 2, none⟩) (HLO.out (W.heap.size + 2) HV9.out.view.lt (.inl (by omega)))).trans (HV9.out.view.frozen 2)
        have HB8 : Hid (Blk (w8.setCell ⟨W.heap.size + 2, 2, none⟩ (.slice a8 ((upK h k).length + 1) c8)) wr.heap.size 39 #[.int .i64 (cliO x), .int .i64 (kindO x), .int .i64 (begO x), .int .i64 (endO x), .slice a4 la.length c4, .slice a5 (seeO x).length c5]) := Lib.hid (Blk.far ((HLO.out wr.heap.size HB9.out.lt (.inr rfl)).trans HB9.out) (show ¬ wr.heap.size = W.heap.size + 2 by omega) _)
        clear hown8 hgr8 hat8 HV9 HB9 HLO
        obtain ⟨gx, hgx⟩ : ∃ z, z = wr.heap.size := ⟨_, rfl⟩
        rw [← hgx] at HB8
        generalize hws : w8.setCell ⟨W.heap.size + 2, 2, none⟩ (.slice a8 ((upK h k).length + 1) c8) = ws at HV8 HB8
        have HWE := Lib.hid hws
        clear hws
        have y4 := HB8.out.cell 4
        rw [← HWE.out] at y4
        rw [hgx] at y4
        go_wp2
        rw [HWE.out]
        clear y4 q2 f2 x0 x1 x2 x3 x4 x5 HB8
        obtain ⟨G2, hG2⟩ : ∃ G, G = gk := ⟨_, rfl⟩
        subst hG2
        go_loopg [41] la.length (fun m i wz => ∃ q nM', m + q = la.length ∧ i = .int .i64 ((q : Nat) : Int) ∧ Vw W wz (.slice (some ⟨b, off, none⟩) h.length cap) h.length W.heap.size vr (.slice a8 ((upK h k).length + 1) c8) (rdK h k) (upK h k ++ [k]) (insM (ownK h k) (la.take q) (k : Int)) nM' ms S ∧ nM' ≤ 1000 * k + q)
        case atStart => exact ⟨0, nM, by omega, rfl, HV8.out, by omega⟩
        case round =>
          clear HV8
          obtain ⟨q, nM', hmq, rfl, hvw2, hnm2⟩ := hrel
          have HM3 := Lib.hid hmq
          have HV8 := Lib.hid hvw2
          have KW8 := Lib.hid hvw2.bel
          have hq : q ≤ la.length := by omega
          clear hmq hvw2
          by_cases hql : q < la.length
          · obtain ⟨bs, os, cs, hv, hbs, hcs⟩ := str_at HN.out.1 hql
            injection hv with e1 e2 e3
            subst e1
            have hcs2 := (KW8.out.cell (p := ⟨bs, os + q, none⟩) hbs).trans hcs
            have hqi : (q : Int) < la.length := by omega
            have hq0 : (0 : Int) ≤ (q : Int) := by omega
            have hsl : la[q].length ≤ maxLen := Nat.le_trans (HSM.out.1 _ (List.getElem_mem hql)) (by unfold maxLen; omega)
            have HTQ : Hid (insM (ownK h k) (la.take (q + 1)) (k : Int) = updM (insM (ownK h k) (la.take q) (k : Int)) la[q] (k : Int)) := Lib.hid (by rw [List.take_succ_eq_append_getElem hql, insM_snoc])
            have hbig : nM' < maxLen := by unfold maxLen; omega
            have y3 : wr.cell? ⟨W.heap.size + 2, 3, none⟩ = some (.map (some W.heap.size)) := HV8.out.view.cell 3
            unfold vs at hcs2
            clear e2 e3 hcs
            generalize la[q] = s at *
            go_wp2_with (refine wpList_map_put ownT rfl (.tmp 48) (.tmp 49) (.tmp 50) rfl W.heap.size nM' _ s (k : Int) rfl HV8.out.own hbig rfl hsl rfl ?_)
            intro w9 hmap9 hgr9
            have HV10 := Lib.hid (HV8.out.moreO hmap9 hgr9)
            clear hmap9 hgr9
            go_wp2
            go_roundg (la.length - (q + 1))
            case measure => have := HM3.out; omega
            case rel => exact ⟨q + 1, nM' + 1, by omega, by go_num, by rw [HTQ.out]; exact HV10.out, by omega⟩
          · have hqq : q = la.length := by omega
            subst hqq
            have HV11 : Hid (Vw W wr (.slice (some ⟨b, off, none⟩) h.length cap) h.length W.heap.size vr (.slice a8 ((upK h k).length + 1) c8) (rdK h (k + 1)) (upK h (k + 1)) (ownK h (k + 1)) nM' ms S) := Lib.hid (by
              rw [HRL.out, HUL.out, HOL.out]
              have h9 := HV8.out
              rwa [List.take_length] at h9)
            have HNM : Hid (nM' ≤ 1000 * (k + 1)) := Lib.hid (by omega)
            go_wp2
            go_roundg (h.length - (k + 1))
            case measure => have := HM.out; omega
            case rel => exact ⟨k + 1, by omega, by go_num, vr, (.slice a8 ((upK h k).length + 1) c8), nM', ms, S, HV11.out, HSE2.out, fun i hi => HNO.out i (by omega), HNM.out⟩
      · have e1 := beq_eq_false_iff_ne.2 hk1
        have hk2 : kindO x = 2 := HFO.out.elim (fun q => absurd q.1 hk1) fun q => q.1
        have HNU : Hid (¬ UpI h k) := Lib.hid fun q => hk1 (HUP.out.1 q)
        have HUL : Hid (upK h (k + 1) = upK h k) := Lib.hid (by rw [HUS.out, if_neg HNU.out, List.append_nil])
        have HOL : Hid (ownK h (k + 1) = ownK h k) := Lib.hid (by rw [HOS.out, if_neg HNU.out])
        by_cases he : 0 ≤ endO x
        · have HU : Hid (RdI h k) := Lib.hid (HRD.out.2 ⟨hk2, he⟩)
          have HRL : Hid (rdK h (k + 1) = rdK h k ++ [k]) := Lib.hid (by rw [HRS.out, if_pos HU.out])
          have HMK : Hid (ms k = none) := Lib.hid (HNO.out k (Nat.le_refl k))
          clear hk1 hk2 HUP HRD HUS HRS HOS HFO
          have HSN : Hid (nth h k = x) := Lib.hid HNX.out
          have hlse : (seeO x).length ≤ 1000 := hls
          have q1 : wr.cell? ⟨W.heap.size + 2, 1, none⟩ = some vr := HV.out.view.cell 1
          have HSL : Hid (seeO (nth h k) = seeO x) := Lib.hid (by rw [HNX.out])
          have hgl := HV.out.view.lt
          generalize seeO x = ls at *
          go_wp2_with (at_builtin; refine appendi_at rfl (.tmp 60) (.tmp 62) rfl (W.heap.size + 3) vr (.slice (some ⟨wr.heap.size + 1, 0, none⟩) 1 1) (rdK h k).length (intsNN (rdK h k)) [(k : Int)] rfl (HV.out.on (HAL.out _ _)).rr rfl (HONE.out _) (by simp; omega) (HSZ.out _ _) ?_)
          intro v8 w8 hown8 hgr8 hat8
          obtain ⟨a8, c8, rfl⟩ := row_slc hown8
          have HV9 := Lib.hid (HV.out.on (HAL.out (.cells #[.int .i64 (cliO x), .int .i64 (kindO x), .int .i64 (begO x), .int .i64 (endO x), .slice a4 (addO x).length c4, .slice a5 ls.length c5] 39) (.cells #[.int .i64 (k : Int)] 3)))
          have HB9 : Hid (Blk ((wr.alloc (.cells #[.int .i64 (cliO x), .int .i64 (kindO x), .int .i64 (begO x), .int .i64 (endO x), .slice a4 (addO x).length c4, .slice a5 ls.length c5] 39)).alloc (.cells #[.int .i64 (k : Int)] 3)) wr.heap.size 39 #[.int .i64 (cliO x), .int .i64 (kindO x), .int .i64 (begO x), .int .i64 (endO x), .slice a4 (addO x).length c4, .slice a5 ls.length c5]) := Lib.hid ((Blk.new wr _ _).alloc _)
          have HLO : Hid (∀ b', b' < ((wr.alloc (.cells #[.int .i64 (cliO x), .int .i64 (kindO x), .int .i64 (begO x), .int .i64 (endO x), .slice a4 (addO x).length c4, .slice a5 ls.length c5] 39)).alloc (.cells #[.int .i64 (k : Int)] 3)).heap.size → (b' < W.heap.size + 3 ∨ b' = wr.heap.size) → w8.heap[b']? = ((wr.alloc (.cells #[.int .i64 (cliO x), .int .i64 (kindO x), .int .i64 (begO x), .int .i64 (endO x), .slice a4 (addO x).length c4, .slice a5 ls.length c5] 39)).alloc (.cells #[.int .i64 (k : Int)] 3)).heap[b']?) := Lib.hid fun b' h1 h2 => hgr8.block b' h1 fun e => by
            have h3 := (HV9.out.rr.lt b' e.symm).1
            have h4 := (HV.out.rr.lt b' e.symm).2
            omega
          have hgl := HV.out.view.lt
          have HV8 : Hid (Vw W (w8.setCell ⟨W.heap.size + 2, 1, none⟩ (.slice a8 ((rdK h k).length + 1) c8)) (.slice (some ⟨b, off, none⟩) h.length cap) h.length W.heap.size (.slice a8 ((rdK h k).length + 1) c8) vu (rdK h k ++ [k]) (upK h k) (ownK h k) nM ms S) := Lib.hid (Vw.moreR HV9.out (by rw [List.map_append]; exact hown8) hgr8 (by simpa using hat8))
          have q2 : w8.cell? ⟨W.heap.size + 2, 1, none⟩ = some vr := (World.cell?_of_block (a := ⟨W.heap.size + 2, 1, none⟩) (HLO.out (W.heap.size + 2) HV9.out.view.lt (.inl (by omega)))).trans (HV9.out.view.cell 1)
          have f2 : w8.frozen? ⟨W.heap.size + 2, 1, none⟩ = false := (World.frozen?_of_block (a := ⟨W.heap.size + 2, 1, none⟩) (HLO.out (W.heap.size + 2) HV9.out.view.lt (.inl (by omega)))).trans (HV9.out.view.frozen 1)
          have HB8 : Hid (Blk (w8.setCell ⟨W.heap.size + 2, 1, none⟩ (.slice a8 ((rdK h k).length + 1) c8)) wr.heap.size 39 #[.int .i64 (cliO x), .int .i64 (kindO x), .int .i64 (begO x), .int .i64 (endO x), .slice a4 (addO x).length c4, .slice a5 ls.length c5]) := Lib.hid (Blk.far ((HLO.out wr.heap.size HB9.out.lt (.inr rfl)).trans HB9.out) (show ¬ wr.heap.size = W.heap.size + 2 by omega) _)
          clear hown8 hgr8 hat8 HV9 HB9 HLO
          obtain ⟨gx, hgx⟩ : ∃ z, z = wr.heap.size := ⟨_, rfl⟩
          rw [← hgx] at HB8
          generalize hws : w8.setCell ⟨W.heap.size + 2, 1, none⟩ (.slice a8 ((rdK h k).length + 1) c8) = ws at HV8 HB8
          have HWE := Lib.hid hws
          clear hws
          have HN2 := Lib.hid (HV8.out.newS HXN.out.1)
          have z4 : ws.cell? ⟨W.heap.size + 2, 4, none⟩ = some (.slice (some ⟨W.heap.size + 1, 0, none⟩) h.length h.length) := HV8.out.view.cell 4
          have HVA := Lib.hid (HV8.out.on ((Below.refl ws.heap.size ws).alloc (Nat.le_refl _) (.map #[] 0)))
          have z1 : (ws.alloc (.map #[] 0)).cell? ⟨W.heap.size + 1, k, none⟩ = some (.map none) := (HVA.out.sees.cell k).trans (by rw [msA_at HXN.out.1, HMK.out])
          have z2 : (ws.alloc (.map #[] 0)).frozen? ⟨W.heap.size + 1, k, none⟩ = false := HVA.out.sees.frozen k
          have z3 := HVA.out.sees.lt
          have y5 := (HB8.out.alloc (.map #[] 0)).cell 5
          have HZS : Hid (ws.heap.size = w8.heap.size) := Lib.hid (by rw [← HWE.out]; simp [World.setCell])
          rw [HZS.out] at HN2
          rw [← HWE.out] at y5 z4 z1 z2 z3
          rw [show W.heap.size + 2 = W.heap.size + 1 + 1 from rfl] at y5 z4 z1 z2 z3
          rw [hgx] at y5
          go_wp2_with (refine wpList_make_map rfl 47 rfl ?_)
          rw [HWE.out] at *
          clear y5 q1 q2 f2 x0 x1 x2 x3 x4 x5 z1 z2 z3 z4
          obtain ⟨G2, hG2⟩ : ∃ G, G = gk := ⟨_, rfl⟩
          subst hG2
          generalize w8.heap.size = gb at *
          go_loopg [76] ls.length (fun m i wz => ∃ q : Nat, m + q = ls.length ∧ i = .int .i64 ((q : Nat) : Int) ∧ Vw W wz (.slice (some ⟨b, off, none⟩) h.length cap) h.length W.heap.size (.slice a8 ((rdK h k).length + 1) c8) vu (rdK h k ++ [k]) (upK h k) (ownK h k) nM (updS ms k (some gb)) (updS S k (ls.take q)))
          case atStart => exact ⟨0, by omega, rfl, HN2.out⟩
          case round =>
            clear HN2 HV8
            obtain ⟨q, hmq, rfl, hvw2⟩ := hrel
            have HM3 := Lib.hid hmq
            have HV8 := Lib.hid hvw2
            have KW8 := Lib.hid hvw2.bel
            have hq : q ≤ ls.length := by omega
            clear hmq hvw2
            by_cases hql : q < ls.length
            · obtain ⟨bs, os, cs, hv, hbs, hcs⟩ := str_at HN.out.2 hql
              injection hv with e1 e2 e3
              subst e1
              have hcs2 := (KW8.out.cell (p := ⟨bs, os + q, none⟩) hbs).trans hcs
              have hqi : (q : Int) < ls.length := by omega
              have hq0 : (0 : Int) ≤ (q : Int) := by omega
              have hsl : ls[q].length ≤ maxLen := Nat.le_trans (HSM.out.2 _ (List.getElem_mem hql)) (by unfold maxLen; omega)
              have HTQ : Hid (ls.take (q + 1) = ls.take q ++ [ls[q]]) := Lib.hid (List.take_succ_eq_append_getElem hql)
              have hbig : (ls.take q).length < maxLen := by rw [List.length_take]; unfold maxLen; omega
              have z4 : wr.cell? ⟨W.heap.size + 2, 4, none⟩ = some (.slice (some ⟨W.heap.size + 1, 0, none⟩) h.length h.length) := HV8.out.view.cell 4
              have z1 : wr.cell? ⟨W.heap.size + 1, k, none⟩ = some (.map (some gb)) := (HV8.out.sees.cell k).trans (by rw [msA_at HXN.out.1, updS_same])
              have HSB : Hid (SetB wr gb (ls.take q).length (ls.take q)) := Lib.hid (by have h9 := (HV8.out.sets k gb (updS_same _ _ _)).2; rwa [updS_same] at h9)
              unfold vs at hcs2
              clear e2 e3 hcs
              generalize ls[q] = s at *
              generalize ls.take q = S2 at *
              go_wp2_with (refine wpList_store_set rfl (.tmp 86) (.tmp 87) _ rfl gb _ S2 s rfl HSB.out hbig rfl hsl rfl ?_)
              intro w9 hset9 hgr9
              have HV10 : Hid (Vw W w9 (.slice (some ⟨b, off, none⟩) h.length cap) h.length W.heap.size (.slice a8 ((rdK h k).length + 1) c8) vu (rdK h k ++ [k]) (upK h k) (ownK h k) nM (updS ms k (some gb)) (updS S k (S2 ++ [s]))) := Lib.hid (by
                have h9 := HV8.out.moreS (k := k) (b := gb) (s := s) (updS_same _ _ _) (by rw [updS_same]; exact hset9) hgr9
                rwa [updS_same, updS_twice] at h9)
              clear hset9 hgr9
              go_wp2
              go_roundg (ls.length - (q + 1))
              case measure => have := HM3.out; omega
              case rel => exact ⟨q + 1, by omega, by go_num, by rw [HTQ.out]; exact HV10.out⟩
            · have hqq : q = ls.length := by omega
              subst hqq
              have HV11 : Hid (Vw W wr (.slice (some ⟨b, off, none⟩) h.length cap) h.length W.heap.size (.slice a8 ((rdK h k).length + 1) c8) vu (rdK h (k + 1)) (upK h (k + 1)) (ownK h (k + 1)) nM (updS ms k (some gb)) (updS S k ls)) := Lib.hid (by
                rw [HRL.out, HUL.out, HOL.out]
                have h9 := HV8.out
                rwa [List.take_length] at h9)
              have HSE3 : Hid (∀ i, i < k + 1 → RdI h i → ∃ b, updS ms k (some gb) i = some b ∧ updS S k ls i = seeO (nth h i)) := Lib.hid fun i hi hr => by
                by_cases e : i = k
                · subst e; exact ⟨gb, updS_same _ _ _, by rw [updS_same]; exact HSL.out.symm⟩
                · rw [updS_other _ _ e, updS_other _ _ e]; exact HSE.out i (by omega) hr
              have HNO3 : Hid (∀ i, k + 1 ≤ i → updS ms k (some gb) i = none) := Lib.hid fun i hi => by rw [updS_other _ _ (show ¬ i = k by omega)]; exact HNO.out i (by omega)
              have HNM : Hid (nM ≤ 1000 * (k + 1)) := Lib.hid (by omega)
              go_wp2
              go_roundg (h.length - (k + 1))
              case measure => have := HM.out; omega
              case rel => exact ⟨k + 1, by omega, by go_num, (.slice a8 ((rdK h k).length + 1) c8), vu, nM, updS ms k (some gb), updS S k ls, HV11.out, HSE3.out, HNO3.out, HNM.out⟩
        · have HNR : Hid (¬ RdI h k) := Lib.hid fun q => he (HRD.out.1 q).2
          have HRL : Hid (rdK h (k + 1) = rdK h k) := Lib.hid (by rw [HRS.out, if_neg HNR.out, List.append_nil])
          have HV12 : Hid (∀ o, Vw W (wr.alloc o) (.slice (some ⟨b, off, none⟩) h.length cap) h.length W.heap.size vr vu (rdK h (k + 1)) (upK h (k + 1)) (ownK h (k + 1)) nM ms S) := Lib.hid fun o => by
            rw [HRL.out, HUL.out, HOL.out]
            exact HV.out.on (HAL1.out o)
          have HSE2 : Hid (∀ i, i < k + 1 → RdI h i → ∃ b, ms i = some b ∧ S i = seeO (nth h i)) := Lib.hid fun i hi hr => by
            by_cases e : i = k
            · subst e; exact absurd hr HNR.out
            · exact HSE.out i (by omega) hr
          clear hk1 hk2 HUP HRD HUS HRS HOS HFO
          go_wp2
          go_roundg (h.length - (k + 1))
          case measure => have := HM.out; omega
          case rel => exact ⟨k + 1, by omega, by go_num, vr, vu, nM, ms, S, HV12.out _, HSE2.out, fun i hi => HNO.out i (by omega), by omega⟩
    · have hkk : k = h.length := by omega
      subst hkk
      have HF : Hid (LookMade W (.slice ao h.length cap) h (.returned (.pointer (some ⟨W.heap.size + 2, 0, none⟩))) wr) := Lib.hid ⟨W.heap.size, rfl, Nat.le_refl _, ⟨W, vr, vu, nM, ms, S, HV.out, HSE.out⟩, KW.out⟩
      go_wp2
      go_ret
      exact HF.out
end Go.Proofs.YtjijlhjggpibjaaGreat
namespace Go.Proofs.YtjijlhjggpibjaaGreat
open Go.RowKit Go.Maps

def cntL (la se : List Str) : Nat := (la.filter fun s => decide (s ∈ se)).length
theorem cntL_snoc (la se : List Str) (s : Str) : cntL (la ++ [s]) se = cntL la se + if s ∈ se then 1 else 0 := by
  unfold cntL
  rw [List.filter_append, List.length_append]
  congr 1
  by_cases h : s ∈ se <;> simp [h]
theorem cntL_le (la se : List Str) : cntL la se ≤ la.length := List.length_filter_le _ _
theorem cntL_all {la se : List Str} : cntL la se = la.length ↔ ∀ s ∈ la, s ∈ se := by
  unfold cntL
  rw [List.length_filter_eq_length_iff]
  constructor
  · intro h s hs
    exact of_decide_eq_true (h s hs)
  · intro h s hs
    exact decide_eq_true (h s hs)
theorem cntL_pos {la se : List Str} : 0 < cntL la se ↔ ∃ s ∈ la, s ∈ se := by
  unfold cntL
  rw [List.length_pos_iff_exists_mem]
  constructor
  · rintro ⟨s, hs⟩
    rw [List.mem_filter] at hs
    exact ⟨s, hs.1, of_decide_eq_true hs.2⟩
  · rintro ⟨s, h1, h2⟩
    exact ⟨s, List.mem_filter.2 ⟨h1, decide_eq_true h2⟩⟩
/-- How many identities of an update a read returned. -/
def cntS (h : List Opn) (r u : Nat) : Nat := cntL (addO (nth h u)) (seeO (nth h r))
theorem cntS_all {h : List Opn} {r u : Nat} : cntS h r u = (addO (nth h u)).length ↔ ShowI h r u := cntL_all

set_option maxRecDepth 100000 in
set_option maxHeartbeats 4000000 in
theorem shown_any (g : Nat) (hv : Value) (h : List Opn) (r u : Nat) (W : World) (hvw : ViewR W g hv h) (hr : ReadsO W hv h) (hs : SmallH h) (hrl : r < h.length) (hul : u < h.length) (rr : RdI h r) :
    Calls Tryz.prog 35 #[.pointer (some ⟨g + 2, 0, none⟩), .int .i64 (r : Int), .int .i64 (u : Int)] W (fun e w' => e = .returned (.int .i64 ((cntS h r u : Nat) : Int)) ∧ w' = W) := by
  obtain ⟨W0, vr, vu, nM, ms, S, hv0, hse⟩ := hvw
  obtain ⟨br, hbr, hS⟩ := hse r hrl rr
  obtain ⟨b, off, cap, a4, c4, a5, c5, rfl, hl0, hm0, hm4, hm5, hl4, hl5, hcell, r1, r2⟩ := hr.at2 hul
  have HSB : Hid (SetB W br (seeO (nth h r)).length (seeO (nth h r))) := Lib.hid (by have h9 := (hv0.sets r br hbr).2; rwa [hS] at h9)
  have V0 : W.cell? ⟨g + 2, 0, none⟩ = some (.slice (some ⟨b, off, none⟩) h.length cap) := hv0.view.cell 0
  have V4 : W.cell? ⟨g + 2, 4, none⟩ = some (.slice (some ⟨g + 1, 0, none⟩) h.length h.length) := hv0.view.cell 4
  have z1 : W.cell? ⟨g + 1, r, none⟩ = some (.map (some br)) := (hv0.sees.cell r).trans (by rw [msA_at hrl, hbr])
  have dd := Lib.hid (hcell W (Below.refl _ _))
  have d4 := dd.out.2.2.2.2.1
  have hsm := hs.2 _ (List.getElem_mem hul)
  have hla := hsm.1
  have HSM := Lib.hid hsm.2.2
  have HN := Lib.hid (And.intro r1 r2)
  have HC : Hid (cntS h r u = cntL (addO h[u]) (seeO (nth h r))) := Lib.hid (by unfold cntS; rw [nth_eq hul])
  have hlse : (seeO (nth h r)).length ≤ 1000 := by rw [nth_eq hrl]; exact (hs.2 _ (List.getElem_mem hrl)).2.1
  rw [HC.out]
  have hri : (r : Int) < h.length := by omega
  have hr0 : (0 : Int) ≤ (r : Int) := by omega
  have hui : (u : Int) < h.length := by omega
  have hu0 : (0 : Int) ≤ (u : Int) := by omega
  clear hse hv0 hbr hS hcell r1 r2 dd hsm HC hs hr
  generalize h[u] = x at *
  generalize addO x = la at *
  generalize seeO (nth h r) = se at *
  clear hrl hul rr
  go_enter Tryz.func35, Tryz.ntmps35
  go_wp2
  go_loop [7, 19] (fun c i => ∃ q : Nat, q ≤ la.length ∧ i = .int .i64 q ∧ c = .int .i64 ((cntL (la.take q) se : Nat) : Int)) (fun _ i => la.length - (intOf i).toNat)
  case atStart => exact ⟨0, by omega, rfl, rfl⟩
  case round =>
    obtain ⟨q, hq, rfl, rfl⟩ := hrel
    by_cases hql : q < la.length
    · obtain ⟨bs, os, cs, hv, hbs, hcs⟩ := str_at HN.out.1 hql
      injection hv with e1 e2 e3
      subst e1
      have hqi : (q : Int) < la.length := by omega
      have hq0 : (0 : Int) ≤ (q : Int) := by omega
      have hsl : la[q].length ≤ maxLen := Nat.le_trans (HSM.out.1 _ (List.getElem_mem hql)) (by unfold maxLen; omega)
      have HTQ : Hid (cntL (la.take (q + 1)) se = cntL (la.take q) se + if la[q] ∈ se then 1 else 0) := Lib.hid (by rw [List.take_succ_eq_append_getElem hql, cntL_snoc])
      have hcl : cntL (la.take q) se ≤ 1000 := Nat.le_trans (cntL_le _ _) (by rw [List.length_take]; omega)
      unfold vs at hcs
      clear e2 e3
      generalize la[q] = s at *
      by_cases hin : s ∈ se
      · have HIN := Lib.hid (decide_eq_true hin)
        have HT2 : Hid (cntL (la.take (q + 1)) se = cntL (la.take q) se + 1) := Lib.hid (by rw [HTQ.out, if_pos hin])
        clear hin HTQ
        generalize cntL (la.take q) se = n at *
        go_wp2_with (refine wpList_lookup_set rfl (.tmp 29) (.tmp 30) rfl br se.length se s rfl HSB.out rfl hsl HIN.out ?_)
        go_round
        case rel => exact ⟨q + 1, by omega, by go_num, by rw [HT2.out]; go_num⟩
        case measure => simp [intOf]; omega
      · have HIN := Lib.hid (decide_eq_false hin)
        have HT2 : Hid (cntL (la.take (q + 1)) se = cntL (la.take q) se) := Lib.hid (by rw [HTQ.out, if_neg hin, Nat.add_zero])
        clear hin HTQ
        generalize cntL (la.take q) se = n at *
        go_wp2_with (refine wpList_lookup_set rfl (.tmp 29) (.tmp 30) rfl br se.length se s rfl HSB.out rfl hsl HIN.out ?_)
        go_round
        case rel => exact ⟨q + 1, by omega, by go_num, by rw [HT2.out]⟩
        case measure => simp [intOf]; omega
    · have hqq : q = la.length := by omega
      subst hqq
      rw [List.take_length]
      go_wp2
      go_ret
      exact ⟨rfl, rfl⟩

set_option maxRecDepth 100000 in
set_option maxHeartbeats 4000000 in
theorem shows_any (g : Nat) (hv : Value) (h : List Opn) (r u : Nat) (W : World) (hvw : ViewR W g hv h) (hr : ReadsO W hv h) (hs : SmallH h) (hrl : r < h.length) (hul : u < h.length) (rr : RdI h r) :
    Calls Tryz.prog 16 #[.pointer (some ⟨g + 2, 0, none⟩), .int .i64 (r : Int), .int .i64 (u : Int)] W (BoolMade W (decide (ShowI h r u))) := by
  have HSH : Hid (∀ wq, Below W.heap.size W wq → Calls Tryz.prog 35 #[.pointer (some ⟨g + 2, 0, none⟩), .int .i64 (r : Int), .int .i64 (u : Int)] wq (fun e w' => e = .returned (.int .i64 ((cntS h r u : Nat) : Int)) ∧ w' = wq)) := Lib.hid fun wq hq => shown_any g hv h r u wq (hvw.on hq) (hr.on hq) hs hrl hul rr
  have HV0 : Hid (∀ wq, Below W.heap.size W wq → wq.cell? ⟨g + 2, 0, none⟩ = some hv) := Lib.hid fun wq hq => by
    obtain ⟨W0, vr, vu, nM, ms, S, hv0, -⟩ := hvw.on hq
    exact hv0.view.cell 0
  obtain ⟨b, off, cap, a4, c4, a5, c5, rfl, hl0, hm0, hm4, hm5, hl4, hl5, hcell, r1, r2⟩ := hr.at2 hul
  have HCE := Lib.hid hcell
  have hla := (hs.2 _ (List.getElem_mem hul)).1
  have HAL : Hid (cntS h r u = (addO h[u]).length ↔ ShowI h r u) := Lib.hid (by rw [← nth_eq hul]; exact cntS_all)
  have hcl : cntS h r u ≤ 1000 := Nat.le_trans (cntL_le _ _) (by rw [nth_eq hul]; exact hla)
  have hui : (u : Int) < h.length := by omega
  have hu0 : (0 : Int) ≤ (u : Int) := by omega
  obtain ⟨res, hres⟩ : ∃ z, z = decide (ShowI h r u) := ⟨_, rfl⟩
  have HEQ : Hid ((((cntS h r u : Nat) : Int) == ((addO h[u]).length : Int)) = res) := Lib.hid (by
    rw [hres, Bool.eq_iff_iff, beq_iff_eq, decide_eq_true_iff, ← HAL.out]
    omega)
  rw [← hres]
  clear hcell r1 r2 hvw hr hs hres HAL
  generalize h[u] = o at *
  generalize cntS h r u = n at *
  clear hrl hul rr
  go_enter Tryz.func16, Tryz.ntmps16
  go_upto_region 1 with fail
  refine region_left [.is (.pointer (some ⟨g + 2, 0, none⟩)), .is (.int .i64 (r : Int)), .is (.int .i64 (u : Int)), .is (.int .i64 (n : Int)), .is (.pointer (some ⟨g + 2, 0, none⟩)), .is (.pointer (some ⟨g + 2, 0, none⟩)), .is (.pointer (some ⟨g + 2, 0, none⟩)), .is (.slice (some ⟨b, off, none⟩) h.length cap), .is (.int .i64 (u : Int)), .is (.pointer (some ⟨b, off + u * 6, none⟩)), .is (.pointer (some ⟨b, off + u * 6 + 4, none⟩)), .is (.slice a4 (addO o).length c4), .is (.int .i64 ((addO o).length : Nat)), .is (.bool res), .is (.bool res)] (by kernel_rfl) rfl (by kernel_rfl) (by kernel_rfl) (.cons ?s1_0 (.cons ?s1_1 (.cons ?s1_2 (.cons ?s1_3 (.cons ?s1_4 (.cons ?s1_5 (.cons ?s1_6 (.cons ?s1_7 (.cons ?s1_8 (.cons ?s1_9 (.cons ?s1_10 (.cons ?s1_11 (.cons ?s1_12 (.cons ?s1_13 (.cons ?s1_14 .nil))))))))))))))) ?s1_fin
  case s1_0 =>
    intro wq hbw st  K hK
    simp only [Act.put, List.setIfInBounds_toArray, List.set_cons_zero, List.set_cons_succ] at hK ⊢
    unfold opStep
    rw [if_pos (by rfl)]
    go_simp
    exact hK.out _ _ (Below.refl _ _) rfl _ rfl
  case s1_1 =>
    intro wq hbw st  K hK
    simp only [Act.put, List.setIfInBounds_toArray, List.set_cons_zero, List.set_cons_succ] at hK ⊢
    unfold opStep
    rw [if_pos (by rfl)]
    go_simp
    exact hK.out _ _ (Below.refl _ _) rfl _ rfl
  case s1_2 =>
    intro wq hbw st  K hK
    simp only [Act.put, List.setIfInBounds_toArray, List.set_cons_zero, List.set_cons_succ] at hK ⊢
    unfold opStep
    rw [if_pos (by rfl)]
    go_simp
    exact hK.out _ _ (Below.refl _ _) rfl _ rfl
  case s1_3 =>
    intro wq hbw st  K hK
    simp only [Act.put, List.setIfInBounds_toArray, List.set_cons_zero, List.set_cons_succ] at hK ⊢
    unfold opStep
    rw [if_pos (by rfl)]
    go_simp
    refine (HSH.out wq hbw).mono ?_
    rintro e wz ⟨rfl, rfl⟩
    try go_simp
    exact hK.out _ _ (Below.refl _ _) rfl _ rfl
  case s1_4 =>
    intro wq hbw st  K hK
    simp only [Act.put, List.setIfInBounds_toArray, List.set_cons_zero, List.set_cons_succ] at hK ⊢
    unfold opStep
    rw [if_pos (by rfl)]
    go_simp
    exact hK.out _ _ (Below.refl _ _) rfl _ rfl
  case s1_5 =>
    intro wq hbw st  K hK
    simp only [Act.put, List.setIfInBounds_toArray, List.set_cons_zero, List.set_cons_succ] at hK ⊢
    unfold opStep
    rw [if_pos (by rfl)]
    go_simp
    exact hK.out _ _ (Below.refl _ _) rfl _ rfl
  case s1_6 =>
    intro wq hbw st  K hK
    simp only [Act.put, List.setIfInBounds_toArray, List.set_cons_zero, List.set_cons_succ] at hK ⊢
    unfold opStep
    rw [if_pos (by rfl)]
    go_simp
    exact hK.out _ _ (Below.refl _ _) rfl _ rfl
  case s1_7 =>
    intro wq hbw st  K hK
    simp only [Act.put, List.setIfInBounds_toArray, List.set_cons_zero, List.set_cons_succ] at hK ⊢
    unfold opStep
    rw [if_pos (by rfl)]
    have v0 := HV0.out wq hbw
    go_simp
    exact hK.out _ _ (Below.refl _ _) rfl _ rfl
  case s1_8 =>
    intro wq hbw st  K hK
    simp only [Act.put, List.setIfInBounds_toArray, List.set_cons_zero, List.set_cons_succ] at hK ⊢
    unfold opStep
    rw [if_pos (by rfl)]
    go_simp
    exact hK.out _ _ (Below.refl _ _) rfl _ rfl
  case s1_9 =>
    intro wq hbw st  K hK
    simp only [Act.put, List.setIfInBounds_toArray, List.set_cons_zero, List.set_cons_succ] at hK ⊢
    unfold opStep
    rw [if_pos (by rfl)]
    go_simp
    exact hK.out _ _ (Below.refl _ _) rfl _ rfl
  case s1_10 =>
    intro wq hbw st  K hK
    simp only [Act.put, List.setIfInBounds_toArray, List.set_cons_zero, List.set_cons_succ] at hK ⊢
    unfold opStep
    rw [if_pos (by rfl)]
    go_simp
    exact hK.out _ _ (Below.refl _ _) rfl _ rfl
  case s1_11 =>
    intro wq hbw st  K hK
    simp only [Act.put, List.setIfInBounds_toArray, List.set_cons_zero, List.set_cons_succ] at hK ⊢
    unfold opStep
    rw [if_pos (by rfl)]
    have d4 := (HCE.out wq hbw).2.2.2.2.1
    go_simp
    exact hK.out _ _ (Below.refl _ _) rfl _ rfl
  case s1_12 =>
    intro wq hbw st  K hK
    simp only [Act.put, List.setIfInBounds_toArray, List.set_cons_zero, List.set_cons_succ] at hK ⊢
    unfold opStep
    rw [if_pos (by rfl)]
    go_simp
    exact hK.out _ _ (Below.refl _ _) rfl _ rfl
  case s1_13 =>
    intro wq hbw st  K hK
    simp only [Act.put, List.setIfInBounds_toArray, List.set_cons_zero, List.set_cons_succ] at hK ⊢
    unfold opStep
    rw [if_pos (by rfl)]
    have heq := HEQ.out
    go_simp
    exact hK.out _ _ (Below.refl _ _) rfl _ rfl
  case s1_14 =>
    intro wq hbw st  K hK
    simp only [Act.put, List.setIfInBounds_toArray, List.set_cons_zero, List.set_cons_succ] at hK ⊢
    unfold opStep
    rw [if_pos (by rfl)]
    go_simp
    exact hK.out _ _ (Below.refl _ _) rfl _ rfl
  case s1_fin =>
    intro wq hbw
    try simp only [FinAll]
    simp only [Act.put, List.setIfInBounds_toArray, List.set_cons_zero, List.set_cons_succ]
    have HB := Lib.hid hbw
    clear hbw
    go_wp2
    go_ret
    exact ⟨rfl, HB.out⟩

set_option maxRecDepth 100000 in
set_option maxHeartbeats 4000000 in
theorem vbefore_any (g : Nat) (hv : Value) (h : List Opn) (i k : Nat) (W : World) (hvw : ViewR W g hv h) (hr : ReadsO W hv h) (hil : i < h.length) (hkl : k < h.length) :
    Calls Tryz.prog 39 #[.pointer (some ⟨g + 2, 0, none⟩), .int .i64 (i : Int), .int .i64 (k : Int)] W (BoolMade W (prI h i k)) := by
  have HV0 : Hid (∀ wq, Below W.heap.size W wq → wq.cell? ⟨g + 2, 0, none⟩ = some hv) := Lib.hid fun wq hq => by
    obtain ⟨W0, vr, vu, nM, ms, S, hv0, -⟩ := hvw.on hq
    exact hv0.view.cell 0
  obtain ⟨b, off, cap, a4, c4, a5, c5, rfl, hl0, hm0, hm4, hm5, hl4, hl5, hcell, r1, r2⟩ := hr.at2 hil
  obtain ⟨b', off', cap', d4, k4, d5, k5, hv2, _, _, n4, n5, l4, l5, hcell2, s1, s2⟩ := hr.at2 hkl
  injection hv2 with e5 e6 e7
  injection e5 with e5
  injection e5 with e5 e8
  subst e5 e8
  have HN := Lib.hid (And.intro hcell (And.intro r1 r2))
  have HN2 := Lib.hid (And.intro hcell2 (And.intro s1 s2))
  have hii : (i : Int) < h.length := by omega
  have hi0 : (0 : Int) ≤ (i : Int) := by omega
  have hki : (k : Int) < h.length := by omega
  have hk0 : (0 : Int) ≤ (k : Int) := by omega
  have P1 : Hid (precB h[i] h[k] = prI h i k) := Lib.hid (by unfold prI; rw [nth_eq hil, nth_eq hkl])
  obtain ⟨res, hres⟩ : ∃ z, z = prI h i k := ⟨_, rfl⟩
  rw [← hres] at P1 ⊢
  clear hcell r1 r2 hcell2 s1 s2 hvw hr hres e6 e7
  generalize h[i] = o at *
  generalize h[k] = y at *
  clear hil hkl
  go_enter Tryz.func39, Tryz.ntmps39
  go_upto_region 1 with fail
  refine region_left [.is (.pointer (some ⟨g + 2, 0, none⟩)), .is (.pointer (some ⟨g + 2, 0, none⟩)), .is (.pointer (some ⟨g + 2, 0, none⟩)), .is (.slice (some ⟨b, off, none⟩) h.length cap), .is (.int .i64 (i : Int)), .is (.pointer (some ⟨b, off + i * 6, none⟩)), .is (.agg #[.int .i64 (cliO o), .int .i64 (kindO o), .int .i64 (begO o), .int .i64 (endO o), .slice a4 (addO o).length c4, .slice a5 (seeO o).length c5]), .is (.pointer (some ⟨g + 2, 0, none⟩)), .is (.pointer (some ⟨g + 2, 0, none⟩)), .is (.pointer (some ⟨g + 2, 0, none⟩)), .is (.slice (some ⟨b, off, none⟩) h.length cap), .is (.int .i64 (k : Int)), .is (.pointer (some ⟨b, off + k * 6, none⟩)), .is (.agg #[.int .i64 (cliO y), .int .i64 (kindO y), .int .i64 (begO y), .int .i64 (endO y), .slice d4 (addO y).length k4, .slice d5 (seeO y).length k5]), .is (.bool res), .is (.bool res)] (by kernel_rfl) rfl (by kernel_rfl) (by kernel_rfl) (.cons ?s2_0 (.cons ?s2_1 (.cons ?s2_2 (.cons ?s2_3 (.cons ?s2_4 (.cons ?s2_5 (.cons ?s2_6 (.cons ?s2_7 (.cons ?s2_8 (.cons ?s2_9 (.cons ?s2_10 (.cons ?s2_11 (.cons ?s2_12 (.cons ?s2_13 (.cons ?s2_14 (.cons ?s2_15 .nil)))))))))))))))) ?s2_fin
  case s2_0 =>
    intro wq hbw st  K hK
    have KQ := hbw
    simp only [Act.put, List.setIfInBounds_toArray, List.set_cons_zero, List.set_cons_succ] at hK ⊢
    unfold opStep
    rw [if_pos (by rfl)]
    go_simp
    exact hK.out _ _ (Below.refl _ _) rfl _ rfl
  case s2_1 =>
    intro wq hbw st  K hK
    have KQ := hbw
    simp only [Act.put, List.setIfInBounds_toArray, List.set_cons_zero, List.set_cons_succ] at hK ⊢
    unfold opStep
    rw [if_pos (by rfl)]
    go_simp
    exact hK.out _ _ (Below.refl _ _) rfl _ rfl
  case s2_2 =>
    intro wq hbw st  K hK
    have KQ := hbw
    simp only [Act.put, List.setIfInBounds_toArray, List.set_cons_zero, List.set_cons_succ] at hK ⊢
    unfold opStep
    rw [if_pos (by rfl)]
    go_simp
    exact hK.out _ _ (Below.refl _ _) rfl _ rfl
  case s2_3 =>
    intro wq hbw st  K hK
    have KQ := hbw
    simp only [Act.put, List.setIfInBounds_toArray, List.set_cons_zero, List.set_cons_succ] at hK ⊢
    unfold opStep
    rw [if_pos (by rfl)]
    have v0 := HV0.out wq hbw
    go_simp
    exact hK.out _ _ (Below.refl _ _) rfl _ rfl
  case s2_4 =>
    intro wq hbw st  K hK
    have KQ := hbw
    simp only [Act.put, List.setIfInBounds_toArray, List.set_cons_zero, List.set_cons_succ] at hK ⊢
    unfold opStep
    rw [if_pos (by rfl)]
    go_simp
    exact hK.out _ _ (Below.refl _ _) rfl _ rfl
  case s2_5 =>
    intro wq hbw st  K hK
    have KQ := hbw
    simp only [Act.put, List.setIfInBounds_toArray, List.set_cons_zero, List.set_cons_succ] at hK ⊢
    unfold opStep
    rw [if_pos (by rfl)]
    go_simp
    exact hK.out _ _ (Below.refl _ _) rfl _ rfl
  case s2_6 =>
    intro wq hbw st  K hK
    have KQ := hbw
    simp only [Act.put, List.setIfInBounds_toArray, List.set_cons_zero, List.set_cons_succ] at hK ⊢
    unfold opStep
    rw [if_pos (by rfl)]
    have dd := Lib.hid (HN.out.1 wq KQ)
    have d0 := dd.out.1
    have d1 := dd.out.2.1
    have d2 := dd.out.2.2.1
    have d3 := dd.out.2.2.2.1
    have d4 := dd.out.2.2.2.2.1
    have d5 := dd.out.2.2.2.2.2
    go_simp
    exact hK.out _ _ (Below.refl _ _) rfl _ rfl
  case s2_7 =>
    intro wq hbw st  K hK
    have KQ := hbw
    simp only [Act.put, List.setIfInBounds_toArray, List.set_cons_zero, List.set_cons_succ] at hK ⊢
    unfold opStep
    rw [if_pos (by rfl)]
    go_simp
    exact hK.out _ _ (Below.refl _ _) rfl _ rfl
  case s2_8 =>
    intro wq hbw st  K hK
    have KQ := hbw
    simp only [Act.put, List.setIfInBounds_toArray, List.set_cons_zero, List.set_cons_succ] at hK ⊢
    unfold opStep
    rw [if_pos (by rfl)]
    go_simp
    exact hK.out _ _ (Below.refl _ _) rfl _ rfl
  case s2_9 =>
    intro wq hbw st  K hK
    have KQ := hbw
    simp only [Act.put, List.setIfInBounds_toArray, List.set_cons_zero, List.set_cons_succ] at hK ⊢
    unfold opStep
    rw [if_pos (by rfl)]
    go_simp
    exact hK.out _ _ (Below.refl _ _) rfl _ rfl
  case s2_10 =>
    intro wq hbw st  K hK
    have KQ := hbw
    simp only [Act.put, List.setIfInBounds_toArray, List.set_cons_zero, List.set_cons_succ] at hK ⊢
    unfold opStep
    rw [if_pos (by rfl)]
    have v0 := HV0.out wq hbw
    go_simp
    exact hK.out _ _ (Below.refl _ _) rfl _ rfl
  case s2_11 =>
    intro wq hbw st  K hK
    have KQ := hbw
    simp only [Act.put, List.setIfInBounds_toArray, List.set_cons_zero, List.set_cons_succ] at hK ⊢
    unfold opStep
    rw [if_pos (by rfl)]
    go_simp
    exact hK.out _ _ (Below.refl _ _) rfl _ rfl
  case s2_12 =>
    intro wq hbw st  K hK
    have KQ := hbw
    simp only [Act.put, List.setIfInBounds_toArray, List.set_cons_zero, List.set_cons_succ] at hK ⊢
    unfold opStep
    rw [if_pos (by rfl)]
    go_simp
    exact hK.out _ _ (Below.refl _ _) rfl _ rfl
  case s2_13 =>
    intro wq hbw st  K hK
    have KQ := hbw
    simp only [Act.put, List.setIfInBounds_toArray, List.set_cons_zero, List.set_cons_succ] at hK ⊢
    unfold opStep
    rw [if_pos (by rfl)]
    have dd := Lib.hid (HN2.out.1 wq KQ)
    have d0 := dd.out.1
    have d1 := dd.out.2.1
    have d2 := dd.out.2.2.1
    have d3 := dd.out.2.2.2.1
    have d4 := dd.out.2.2.2.2.1
    have d5 := dd.out.2.2.2.2.2
    go_simp
    exact hK.out _ _ (Below.refl _ _) rfl _ rfl
  case s2_14 =>
    intro wq hbw st  K hK
    have KQ := hbw
    simp only [Act.put, List.setIfInBounds_toArray, List.set_cons_zero, List.set_cons_succ] at hK ⊢
    unfold opStep
    rw [if_pos (by rfl)]
    go_simp
    have hpc := prec_any _ _ o y wq ⟨_, _, rfl, HN.out.2.1.keep KQ, HN.out.2.2.keep KQ⟩ ⟨_, _, rfl, HN2.out.2.1.keep KQ, HN2.out.2.2.keep KQ⟩
    rw [P1.out] at hpc
    refine hpc.mono ?_
    rintro e wz ⟨rfl, hbz⟩
    go_simp
    exact hK.out _ _ hbz rfl _ rfl
  case s2_15 =>
    intro wq hbw st  K hK
    have KQ := hbw
    simp only [Act.put, List.setIfInBounds_toArray, List.set_cons_zero, List.set_cons_succ] at hK ⊢
    unfold opStep
    rw [if_pos (by rfl)]
    go_simp
    exact hK.out _ _ (Below.refl _ _) rfl _ rfl
  case s2_fin =>
    intro wq hbw
    try simp only [FinAll]
    simp only [Act.put, List.setIfInBounds_toArray, List.set_cons_zero, List.set_cons_succ]
    have HB := Lib.hid hbw
    clear hbw
    go_wp2
    go_ret
    exact ⟨rfl, HB.out⟩
end Go.Proofs.YtjijlhjggpibjaaGreat
namespace Go.Proofs.YtjijlhjggpibjaaGreat
open Go.RowKit Go.Maps
set_option maxRecDepth 100000

/-- A loop over the set S in block b, its iterator in block r; what is still to come. -/
def RgB (w : World) (b r : Nat) (S : List Str) (left : Lit → Bool) (cnt : Nat) : Prop :=
  ∃ (n : Nat) (D : DataW Unit), w.ranges Tryz.prog 9 (plainElem Tryz.prog 4) b r n D left cnt ∧ (∀ s : Str, s ∈ S → ∀ z, D.atKey (.string s) z = .lit (.bool true)) ∧ ∀ s : Str, left (.string s) = true → s ∈ S
theorem wpList_range_set {w : World} {ops : Array Oper} {rest : List Oper} {o : Oper} {a : Act} {Q : Exit → Act → World → Prop} (hg : o.guard = none) (m : Operand) (hop : o.op = Op.range 47 m) (b n : Nat) (S : List Str) (hm : a.eval m = .map (some b)) (hs : SetB w b n S)
    (hK : ∀ w' left cnt, RgB w' b w.heap.size S left cnt → (∀ s : Str, left (.string s) = decide (s ∈ S)) → w.grownBy w' none → w'.heap.size = w.heap.size + 1 → wpList Tryz.prog ops Q rest (a.put o.dst (.pointer (some ⟨w.heap.size, 0, none⟩))) w') : wpList Tryz.prog ops Q (o :: rest) a w := by
  obtain ⟨D, hown, hh, hat, _⟩ := hs
  refine wpList_range_own w hg m 47 hop 9 4 (string_keyed Tryz.underlying9) Tryz.underlying47 _ b n D hm hown fun w' h1 h2 h3 => ?_
  exact hK w' _ _ ⟨n, D, h1, hat, fun s hs => by rw [hh s] at hs; exact of_decide_eq_true hs⟩ hh h2 h3
theorem keyStr_inv {key : Value} {kl : Lit} (h : keyOf Tryz.prog 9 key = some kl) : ∃ x : Str, key = .string (toB x) ∧ kl = .string x := by
  have hu := Tryz.underlying9
  cases key <;> simp [keyOf, hu, mapKey] at h
  rename_i s
  refine ⟨s.data.toList, ?_, h.2.symm⟩
  simp [toB]
theorem wpList_next_set {w : World} {ops : Array Oper} {rest : List Oper} {o : Oper} {a : Act} {Q : Exit → Act → World → Prop} (hg : o.guard = none) (it : Operand) (hop : o.op = Op.next it false) (b r : Nat) (S : List Str) (left : Lit → Bool) (cnt : Nat) (hit : a.eval it = .pointer (some ⟨r, 0, none⟩)) (h : RgB w b r S left cnt)
    (hDone : (∀ s : Str, left (.string s) = false) → wpList Tryz.prog ops Q rest (a.put o.dst (.tuple #[.bool false])) w)
    (hMore : ∀ (s : Str) (left' : Lit → Bool) (w' : World) (cnt' : Nat), s ∈ S → s.length ≤ maxLen → RgB w' b r S left' cnt' → (∀ t : Str, left' (.string t) = false → left (.string t) = false ∨ t = s) → cnt' < cnt → w.grownBy w' (some r) → w'.heap.size = w.heap.size →
      (Instr.entry (.pointer (some ⟨r, 0, none⟩))).run Tryz.prog w' = .ok (.tuple #[.string (toB s), .bool true]) w' → wpList Tryz.prog ops Q rest (a.put o.dst (.tuple #[.bool true, .string (toB s), .bool true])) w') : wpList Tryz.prog ops Q (o :: rest) a w := by
  obtain ⟨n, D, hr, hat, hS⟩ := h
  have huk := Tryz.underlying9
  have hue := Tryz.underlying4
  refine wpList_next_ranges w hg it hop 9 (string_keyed huk) (plainElem Tryz.prog 4) (fun x : Str => .string (toB x)) (fun c : Bool => .bool c) (fun key kl hk => ?_) (fun v y hv => ?_) b r n D left cnt hit hr (fun _ hl => hDone fun s => hl _) fun x c kl y w' cnt' hk hl hc hzd hr' hlt hgr hsz hen => ?_
  · obtain ⟨x, h1, _⟩ := keyStr_inv hk
    exact ⟨x, h1⟩
  · unfold plainElem at hv
    rw [hue] at hv
    cases v <;> simp at hv
    exact ⟨_, rfl⟩
  · obtain ⟨x', h1, h2⟩ := keyStr_inv hk
    have hx : x' = x := by
      injection h1 with h1
      unfold toB at h1
      injection h1 with h1
      have := congrArg Array.toList h1
      simpa using this.symm
    subst hx h2
    have hxS := hS _ hl
    have hct : c = true := by
      have h3 := hzd .nil
      rw [hat _ hxS] at h3
      rw [plainElem_bool hue c] at hc
      injection hc with hc
      rw [← hc] at h3
      injection h3 with h3
      injection h3 with h3
      exact h3.symm
    subst hct
    have hlen : x'.length ≤ maxLen := by
      simp [keyOf, huk, mapKey, toB, ByteArray.size] at hk
      exact hk
    refine hMore x' _ w' cnt' hxS hlen ⟨n, D, hr', hat, fun s hs => ?_⟩ (fun t ht => ?_) hlt hgr hsz hen
    · rw [Bool.and_eq_true] at hs
      exact hS s hs.1
    · rw [Bool.and_eq_false_iff, Bool.not_eq_false'] at ht
      rcases ht with h4 | h4
      · exact .inl h4
      · exact .inr (by simpa [Lit.sameKey] using h4)
theorem below_none {W w w' : World} (h : Below W.heap.size W w) {row : Option Nat} (hg : w.grownBy w' row) (hr : ∀ j, row = some j → W.heap.size ≤ j) : Below W.heap.size W w' := h.grown hg h.size hr
set_option maxHeartbeats 4000000 in
theorem within_any (g : Nat) (hv : Value) (h : List Opn) (r q : Nat) (W : World) (hvw : ViewR W g hv h) (hrl : r < h.length) (hql : q < h.length) (rr : RdI h r) (rq : RdI h q) :
    Calls Tryz.prog 37 #[.pointer (some ⟨g + 2, 0, none⟩), .int .i64 (r : Int), .int .i64 (q : Int)] W (BoolMade W (decide (WithI h r q))) := by
  obtain ⟨W0, vr, vu, nM, ms, S, hv0, hse⟩ := hvw
  obtain ⟨br, hbr, hSr⟩ := hse r hrl rr
  obtain ⟨bq, hbq, hSq⟩ := hse q hql rq
  have HSR : Hid (SetB W br (seeO (nth h r)).length (seeO (nth h r))) := Lib.hid (by have h9 := (hv0.sets r br hbr).2; rwa [hSr] at h9)
  have HSQ : Hid (∀ w, Below W.heap.size W w → SetB w bq (seeO (nth h q)).length (seeO (nth h q))) := Lib.hid fun w hw => by have h9 := (hv0.sets q bq hbq).2; rw [hSq] at h9; exact h9.on hw
  have HVW : Hid (∀ w, Below W.heap.size W w → w.cell? ⟨g + 2, 4, none⟩ = some (.slice (some ⟨g + 1, 0, none⟩) h.length h.length) ∧ w.cell? ⟨g + 1, r, none⟩ = some (.map (some br)) ∧ w.cell? ⟨g + 1, q, none⟩ = some (.map (some bq))) := Lib.hid fun w hw =>
    ⟨(hv0.on hw).view.cell 4, ((hv0.on hw).sees.cell r).trans (by rw [msA_at hrl, hbr]), ((hv0.on hw).sees.cell q).trans (by rw [msA_at hql, hbq])⟩
  have V4 := (HVW.out W (Below.refl _ _)).1
  have z1 := (HVW.out W (Below.refl _ _)).2.1
  have hri : (r : Int) < h.length := by omega
  have hr0 : (0 : Int) ≤ (r : Int) := by omega
  have hqi : (q : Int) < h.length := by omega
  have hq0 : (0 : Int) ≤ (q : Int) := by omega
  obtain ⟨res, hres⟩ : ∃ z, z = decide (WithI h r q) := ⟨_, rfl⟩
  have HYES : Hid ((∀ s ∈ seeO (nth h r), s ∈ seeO (nth h q)) → res = true) := Lib.hid fun h1 => by rw [hres]; exact decide_eq_true h1
  have HNO : Hid (∀ s ∈ seeO (nth h r), s ∉ seeO (nth h q) → res = false) := Lib.hid fun s h1 h2 => by rw [hres]; exact decide_eq_false fun h3 => h2 (h3 s h1)
  rw [← hres]
  clear hv0 hse hbr hbq hSr hSq hrl hql rr rq hres
  generalize seeO (nth h r) = sr at *
  generalize seeO (nth h q) = sq at *
  go_enter Tryz.func37, Tryz.ntmps37
  go_wp2_with (refine wpList_range_set rfl (.tmp 14) rfl br sr.length sr rfl HSR.out ?_)
  intro w0 left0 cnt0 hrg0 hleft0 hg0 hs0
  have HRG := Lib.hid hrg0
  have HLE := Lib.hid hleft0
  have KW0 := Lib.hid (below_none (Below.refl _ _) hg0 (fun j hj => by cases hj))
  clear hrg0 hleft0 hg0 hs0 V4 z1
  go_wp2
  go_loopg [7] cnt0 (fun m _ wr => ∃ left : Lit → Bool, RgB wr br W.heap.size sr left m ∧ (∀ s ∈ sr, left (.string s) = false → s ∈ sq) ∧ Below W.heap.size W wr)
  case atStart => exact ⟨left0, HRG.out, (fun s hs hl => by rw [HLE.out, decide_eq_true hs] at hl; cases hl), KW0.out⟩
  case round =>
    clear HRG KW0
    obtain ⟨left, hrg, hall, hbel⟩ := hrel
    have HRG := Lib.hid hrg
    have HALL := Lib.hid hall
    have KW := Lib.hid hbel
    clear hrg hall hbel
    go_wp2_with (refine wpList_next_set rfl (.tmp 15) rfl br W.heap.size sr left _ rfl HRG.out ?_ ?_)
    · intro hdone
      have HE := Lib.hid (HYES.out fun s hs => HALL.out s hs (hdone s))
      clear hdone
      go_wp2
      go_ret
      exact ⟨ret_bool HE.out.symm, KW.out⟩
    · intro s left' w1 cnt1 hsS hsl hrg1 hst hlt hg1 hs1 hen
      have HRG1 := Lib.hid hrg1
      have HST := Lib.hid hst
      have HLT := Lib.hid hlt
      have KW1 := Lib.hid (below_none KW.out hg1 (fun j hj => by injection hj with hj; omega))
      have HMS := Lib.hid hsS
      have V4 := (HVW.out w1 KW1.out).1
      have z2 := (HVW.out w1 KW1.out).2.2
      clear hrg1 hst hlt hg1 hs1 hsS
      by_cases hin : s ∈ sq
      · have HIN := Lib.hid (decide_eq_true hin)
        have HNX : Hid (∀ t ∈ sr, left' (.string t) = false → t ∈ sq) := Lib.hid fun t ht hl => by
          rcases HST.out t hl with h1 | h1
          · exact HALL.out t ht h1
          · rw [h1]; exact hin
        clear hin
        go_wp2_with (refine wpList_lookup_set rfl (.tmp 26) (.tmp 27) rfl bq sq.length sq s rfl (HSQ.out _ KW1.out) rfl hsl HIN.out ?_)
        go_roundg cnt1
        case measure => exact HLT.out
        case rel => exact ⟨left', HRG1.out, HNX.out, KW1.out⟩
      · have HIN := Lib.hid (decide_eq_false hin)
        have HE := Lib.hid (HNO.out s HMS.out hin)
        clear hin
        go_wp2_with (refine wpList_lookup_set rfl (.tmp 26) (.tmp 27) rfl bq sq.length sq s rfl (HSQ.out _ KW1.out) rfl hsl HIN.out ?_)
        go_ret
        exact ⟨ret_bool HE.out.symm, KW1.out⟩
end Go.Proofs.YtjijlhjggpibjaaGreat
