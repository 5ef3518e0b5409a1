/-
  Chapter 28: the reference network's state, and that it answers as the program's does (plain).
  Chapter 28: the reference network in memory.
  A region that draws its order and writes: how many of its writing operations are done, each of which waits for the one before it.
  Chapter 28: the reference network's New, place, group and Connected.
-/
import Derived.Test.YtmcdmcnbnnfhnaaXa
import Derived.Test.YtmcdmcnbnnfhnaaWg
import Derived.Test.YtmcdmcnbnnfhnaaXb
import Derived.Test.YtmcdmcnbnnfhnaaRv
namespace Go.Proofs.Ytmcdmcnbnnfhnaa
open Go.RowKit

structure RefS where
  limit : Int
  nums : List Int
  msgs : List MsgM
  last : Int
  split : Bool
  gs : List (List GI)
  d0 : Int
  d1 : Int
  d2 : Int
  d3 : Int
def newQ (l : Int) : RefS := ⟨l, [], [], 0, false, [], 0, 0, 0, 0⟩
def grpN (gs : List (List GI)) (a : Int) : Option Nat := gs.findIdx? fun g => hasB g a
def optI : Option Nat → Int
  | some i => (i : Int)
  | none => -1
def rconnB (split : Bool) (gs : List (List GI)) (a b : Int) : Bool := procB a && procB b && (!split || a == b || (decide (0 ≤ optI (grpN gs a)) && optI (grpN gs a) == optI (grpN gs b)))
def placeN (l : List Int) (x : Int) : Option Nat := l.findIdx? fun y => y == x
def putQ (r : RefS) (m : MsgM) : RefS := { r with last := r.last + 1, nums := r.nums ++ [r.last + 1], msgs := r.msgs ++ [m] }
def remQ (r : RefS) (i : Nat) : RefS := { r with nums := r.nums.take i ++ r.nums.drop (i + 1), msgs := r.msgs.take i ++ r.msgs.drop (i + 1) }
def sendQ (r : RefS) (m : MsgM) : Int × Int × RefS :=
  if (procB m.frm && procB m.to) = true then (if r.limit ≤ (r.nums.length : Int) then (0, 7, r) else (r.last + 1, 0, putQ { r with d0 := r.d0 + 1 } m)) else (0, 1, r)
def msgQ (r : RefS) (i : Nat) : MsgM := r.msgs[i]?.getD zeroM
def peekQ (r : RefS) (x : Int) : MsgM × Int := match placeN r.nums x with | none => (zeroM, 14) | some i => (msgQ r i, 0)
def delQ (r : RefS) (x : Int) : MsgM × Int × RefS :=
  match placeN r.nums x with
  | none => (zeroM, 14, r)
  | some i => if rconnB r.split r.gs (msgQ r i).frm (msgQ r i).to = true then (msgQ r i, 0, { remQ r i with d2 := r.d2 + 1 }) else (zeroM, 9, r)
def dropQ (r : RefS) (x : Int) : Int × RefS :=
  match placeN r.nums x with
  | none => (14, r)
  | some i => (0, { remQ r i with d3 := r.d3 + 1 })
def dupQ (r : RefS) (x : Int) : Int × Int × RefS :=
  match placeN r.nums x with
  | none => (0, 14, r)
  | some i => if r.limit ≤ (r.nums.length : Int) then (0, 7, r) else (r.last + 1, 0, putQ { r with d1 := r.d1 + 1 } (msgQ r i))
def partQ (r : RefS) (gs : List (List GI)) : Int × RefS :=
  match partG gs with
  | none => (1, r)
  | some _ => (0, { r with split := true, gs := gs })
def partR (s : NetS) (gs : List (List GI)) : Int × NetS :=
  match partG gs with
  | none => (1, s)
  | some f => (0, { s with grp := some f })
def healQ (r : RefS) : RefS := { r with split := false, gs := [] }
/-- The two networks are in one state. -/
structure MatchS (s : NetS) (r : RefS) : Prop where
  lim : r.limit = s.limit
  last : r.last = s.last
  cnt : r.nums.length = s.cnt
  ml : r.msgs.length = r.nums.length
  a : r.d0 = s.sent
  b : r.d1 = s.twice
  c : r.d2 = s.taken
  d : r.d3 = s.gone
  keys : KeysOf s.ms r.nums
  ms : ∀ i (h : i < r.nums.length), s.ms r.nums[i] = r.msgs[i]?
  conn : ∀ x y, rconnB r.split r.gs x y = connB s.grp x y
theorem rconn_open (gs : List (List GI)) (a b : Int) : rconnB false gs a b = connB none a b := by
  unfold rconnB connB
  cases procB a <;> cases procB b <;> rfl
theorem partRow_mem (i : Int) : ∀ (g : List GI) (f f' : Int → Option Int), partRow i g f = some f' → (∀ x ∈ g, f' x.n = some i) ∧ ∀ y j, f y = some j → f' y = some j
  | [], f, f', h => by injection h with h; subst h; exact ⟨fun x hx => by simp at hx, fun _ _ h => h⟩
  | p :: r, f, f', h => by
    rw [partRow] at h
    split at h
    · cases h
    · rename_i hc
      have hn : f p.n = none := by
        cases hf : f p.n with
        | none => rfl
        | some v => rw [hf] at hc; simp at hc
      obtain ⟨h1, h2⟩ := partRow_mem i r _ f' h
      refine ⟨fun x hx => ?_, fun y j hy => ?_⟩
      · rcases List.mem_cons.1 hx with rfl | hx
        · exact h2 _ _ (by simp [putF])
        · exact h1 x hx
      · apply h2
        unfold putF
        by_cases e : y = p.n
        · rw [e, hn] at hy; cases hy
        · rw [if_neg e]; exact hy
theorem partAll_mem : ∀ (gs : List (List GI)) (k : Nat) (f f' : Int → Option Int), partAll k gs f = some f' → (∀ q (hq : q < gs.length), ∀ x ∈ gs[q], f' x.n = some ((k + q : Nat) : Int)) ∧ ∀ y j, f y = some j → f' y = some j
  | [], k, f, f', h => by injection h with h; subst h; exact ⟨fun q hq => by simp at hq, fun _ _ h => h⟩
  | g :: gs, k, f, f', h => by
    rw [partAll] at h
    cases h1 : partRow (k : Int) g f with
    | none => rw [h1] at h; cases h
    | some f1 =>
      rw [h1] at h
      obtain ⟨a1, a2⟩ := partRow_mem _ g f f1 h1
      obtain ⟨b1, b2⟩ := partAll_mem gs (k + 1) f1 f' h
      refine ⟨fun q hq x hx => ?_, fun y j hy => b2 _ _ (a2 _ _ hy)⟩
      cases q with
      | zero => exact b2 _ _ (a1 x hx)
      | succ q =>
        have := b1 q (by simpa using hq) x (by simpa using hx)
        rw [this]
        congr 2
        omega
theorem hasB_mem {g : List GI} {a : Int} : hasB g a = true ↔ ∃ x ∈ g, x.n = a := by
  unfold hasB
  rw [List.any_eq_true]
  constructor
  · rintro ⟨x, h1, h2⟩; exact ⟨x, h1, by simpa using h2⟩
  · rintro ⟨x, h1, h2⟩; exact ⟨x, h1, by simpa using h2⟩
theorem part_grp {gs : List (List GI)} {f : Int → Option Int} (h : partG gs = some f) (y : Int) : f y = (grpN gs y).map fun q => (q : Int) := by
  unfold grpN
  cases hi : gs.findIdx? (fun g => hasB g y) with
  | none =>
    rw [List.findIdx?_eq_none_iff] at hi
    cases hf : f y with
    | none => rfl
    | some j =>
      rcases partAll_spec gs 0 _ f h y j hf with h5 | ⟨q, hq, h6, x, hx, hxa⟩
      · cases h5
      · have := hi _ (List.getElem_mem hq)
        rw [hasB_mem.2 ⟨x, hx, hxa⟩] at this
        cases this
  | some q =>
    obtain ⟨hq, h1, -⟩ := List.findIdx?_eq_some_iff_getElem.1 hi
    obtain ⟨x, hx, hxa⟩ := hasB_mem.1 h1
    have := (partAll_mem gs 0 _ f h).1 q hq x hx
    rw [hxa] at this
    rw [this]
    simp
theorem rconn_part {gs : List (List GI)} {f : Int → Option Int} (h : partG gs = some f) (a b : Int) : rconnB true gs a b = connB (some f) a b := by
  unfold rconnB connB
  simp only [pairB]
  rw [part_grp h a, part_grp h b]
  cases procB a <;> cases procB b <;> simp only [Bool.false_and, Bool.and_false, Bool.true_and, Bool.not_true, Bool.false_or]
  congr 1
  cases grpN gs a with
  | none => simp [optI]
  | some i =>
    cases grpN gs b with
    | none => simp [optI]
    | some j => simp [optI]
theorem KeysOf.place {ms : Int → Option MsgM} {L : List Int} (h : KeysOf ms L) {x : Int} (hx : I64 x) : (placeN L x = none ∧ ms x = none) ∨ ∃ i, ∃ hi : i < L.length, placeN L x = some i ∧ L[i] = x ∧ (ms x).isSome = true := by
  unfold placeN
  cases hp : L.findIdx? (fun y => y == x) with
  | none =>
    rw [List.findIdx?_eq_none_iff] at hp
    refine .inl ⟨rfl, ?_⟩
    cases hm : ms x with
    | none => rfl
    | some m =>
      have := hp x ((h.2 x).2 ⟨hx, by rw [hm]; rfl⟩)
      simp at this
  | some i =>
    obtain ⟨hi, h1, -⟩ := List.findIdx?_eq_some_iff_getElem.1 hp
    have h2 : L[i] = x := by simpa using h1
    exact .inr ⟨i, hi, rfl, h2, ((h.2 x).1 (h2 ▸ List.getElem_mem hi)).2⟩
section
variable {l : Int} {s : NetS} {r : RefS} {i : Nat}
theorem MatchS.new (l : Int) : MatchS (newS l) (newQ l) := by
  refine ⟨rfl, rfl, rfl, rfl, rfl, rfl, rfl, rfl, ⟨List.Pairwise.nil, fun x => ?_⟩, fun i h => ?_, fun x y => rconn_open _ _ _⟩
  · simp [newQ, newS]
  · simp [newQ] at h
theorem MatchS.at_ (h : MatchS s r) {x : Int} (hx : I64 x) : (placeN r.nums x = none ∧ s.ms x = none) ∨ ∃ i, ∃ hi : i < r.nums.length, placeN r.nums x = some i ∧ r.nums[i] = x ∧ s.ms x = some (msgQ r i) := by
  rcases h.keys.place hx with h1 | ⟨i, hi, h1, h2, h3⟩
  · exact .inl h1
  · refine .inr ⟨i, hi, h1, h2, ?_⟩
    have h4 := h.ms i hi
    have h5 := h.ml
    unfold msgQ
    rw [← h2, h4, List.getElem?_eq_getElem (by omega)]
    rfl
/-- A message is put under way in both. -/
theorem MatchS.put (h : MatchS s r) (hv : InvS l s i) (hI : s.last < 4611686018427387904) (m : MsgM) : MatchS (putS s m) (putQ r m) := by
  have hl := h.last
  have hml := h.ml
  have h0 := hv.l0
  obtain ⟨k1, k2⟩ := h.keys
  have hlt : ∀ y ∈ r.nums, y ≤ s.last := fun y hy => (hv.key y ((k2 y).1 hy).2).2
  refine ⟨h.lim, by simp only [putQ, putS]; omega, by simp only [putQ, putS, List.length_append, List.length_cons, List.length_nil]; rw [h.cnt], by simp only [putQ, List.length_append, List.length_cons, List.length_nil]; omega, h.a, h.b, h.c, h.d, ⟨?_, fun x => ?_⟩, fun j hj => ?_, h.conn⟩
  · simp only [putQ]
    rw [List.pairwise_append]
    refine ⟨k1, List.pairwise_singleton _ _, fun a ha b hb => ?_⟩
    have := hlt a ha
    rw [List.mem_singleton] at hb
    omega
  · simp only [putQ, putS, List.mem_append, List.mem_singleton, k2 x, hl]
    by_cases e : x = s.last + 1
    · subst e
      rw [updM_self]
      constructor
      · intro _; exact ⟨by unfold I64; omega, rfl⟩
      · intro _; exact .inr rfl
    · rw [updM_ne _ _ e]
      constructor
      · rintro (h1 | h1)
        · exact h1
        · exact (e h1).elim
      · exact .inl
  · simp only [putQ, putS] at hj ⊢
    simp only [List.length_append, List.length_cons, List.length_nil] at hj
    by_cases e : j < r.nums.length
    · rw [List.getElem_append_left e, updM_ne _ _ (by have := hlt _ (List.getElem_mem e); omega), h.ms j e, List.getElem?_append_left (by omega)]
    · have e' : j = r.nums.length := by omega
      subst e'
      rw [List.getElem_append_right (Nat.le_refl _)]
      simp only [Nat.sub_self, List.getElem_cons_zero]
      rw [hl, updM_self, List.getElem?_append_right (by omega), hml, Nat.sub_self]
      rfl
theorem take_drop_get {α : Type} (L : List α) {i j : Nat} (hi : i < L.length) (hj : j < (L.take i ++ L.drop (i + 1)).length) : (L.take i ++ L.drop (i + 1))[j] = L[if j < i then j else j + 1]'(by simp at hj; split <;> omega) := by
  have hj2 := hj
  simp only [List.length_append, List.length_take, List.length_drop] at hj2
  by_cases e : j < i
  · rw [List.getElem_append_left (by rw [List.length_take]; omega), List.getElem_take]
    simp only [if_pos e]
  · rw [List.getElem_append_right (by rw [List.length_take]; omega), List.getElem_drop]
    simp only [if_neg e, List.length_take]
    congr 1
    omega
theorem take_drop_len {α : Type} (L : List α) {i : Nat} (hi : i < L.length) : (L.take i ++ L.drop (i + 1)).length = L.length - 1 := by
  simp only [List.length_append, List.length_take, List.length_drop]; omega
/-- A message is taken out of both. -/
theorem MatchS.rem (h : MatchS s r) {x : Int} {k : Nat} (hk : k < r.nums.length) (hx : r.nums[k] = x) : MatchS { s with cnt := s.cnt - 1, ms := updM s.ms x none } (remQ r k) := by
  have hml := h.ml
  obtain ⟨k1, k2⟩ := h.keys
  have hp := List.pairwise_iff_getElem.1 k1
  have hlen := take_drop_len r.nums hk
  have hne : ∀ j (hj : j < r.nums.length), j ≠ k → r.nums[j] ≠ x := fun j hj e => by
    rw [← hx]
    rcases Nat.lt_or_gt_of_ne e with e | e
    · have := hp j k hj hk e; omega
    · have := hp k j hk hj e; omega
  refine ⟨h.lim, h.last, by simp only [remQ]; rw [hlen, h.cnt], by simp only [remQ]; rw [hlen, take_drop_len r.msgs (by omega), hml], h.a, h.b, h.c, h.d, ⟨?_, fun y => ?_⟩, fun j hj => ?_, h.conn⟩
  · simp only [remQ]
    rw [List.pairwise_append]
    refine ⟨List.Pairwise.sublist (List.take_sublist _ _) k1, List.Pairwise.sublist (List.drop_sublist _ _) k1, fun a ha b hb => ?_⟩
    obtain ⟨ja, hja, rfl⟩ := List.getElem_of_mem ha
    obtain ⟨jb, hjb, rfl⟩ := List.getElem_of_mem hb
    rw [List.getElem_take, List.getElem_drop]
    rw [List.length_take] at hja
    exact hp _ _ _ _ (by omega)
  · simp only [remQ]
    constructor
    · intro hy
      obtain ⟨j, hj, hjy⟩ := List.getElem_of_mem hy
      rw [take_drop_get r.nums hk hj] at hjy
      have hq : (if j < k then j else j + 1) < r.nums.length := by rw [hlen] at hj; split <;> omega
      have hq' : (if j < k then j else j + 1) ≠ k := by split <;> omega
      obtain ⟨q, hq, hq', rfl⟩ : ∃ q, ∃ hq : q < r.nums.length, q ≠ k ∧ r.nums[q] = y := ⟨_, hq, hq', hjy⟩
      rw [updM_ne _ _ (hne q hq hq')]
      exact (k2 _).1 (List.getElem_mem hq)
    · rintro ⟨h1, h2⟩
      by_cases e : y = x
      · subst e; rw [updM_self] at h2; cases h2
      · rw [updM_ne _ _ e] at h2
        obtain ⟨j, hj, hjy⟩ := List.getElem_of_mem ((k2 y).2 ⟨h1, h2⟩)
        rw [List.mem_append]
        have hjk : j ≠ k := fun e' => by subst e'; exact e (hjy.symm.trans hx)
        rcases Nat.lt_or_gt_of_ne hjk with e' | e'
        · exact .inl (hjy ▸ List.mem_take_iff_getElem.2 ⟨j, by omega, rfl⟩)
        · exact .inr (hjy ▸ List.mem_drop_iff_getElem.2 ⟨j - (k + 1), by omega, by congr 1; omega⟩)
  · simp only [remQ] at hj ⊢
    have hj' := hj
    rw [hlen] at hj'
    rw [take_drop_get r.nums hk hj]
    have hq : (if j < k then j else j + 1) < r.nums.length := by split <;> omega
    have hq' : (if j < k then j else j + 1) ≠ k := by split <;> omega
    rw [updM_ne _ _ (hne _ hq hq'), h.ms _ hq]
    have hj2 : j < (r.msgs.take k ++ r.msgs.drop (k + 1)).length := by rw [take_drop_len r.msgs (by omega)]; omega
    rw [List.getElem?_eq_getElem hj2, take_drop_get r.msgs (by omega) hj2, List.getElem?_eq_getElem]
theorem MatchS.send (h : MatchS s r) (hv : InvS l s i) (hI : s.last < 4611686018427387904) (m : MsgM) : (sendQ r m).1 = (sendR s m).1 ∧ (sendQ r m).2.1 = (sendR s m).2.1 ∧ MatchS (sendR s m).2.2 (sendQ r m).2.2 := by
  unfold sendQ sendR
  by_cases hp : (procB m.frm && procB m.to) = true
  · rw [if_pos hp, if_pos hp]
    by_cases hf : s.limit ≤ (s.cnt : Int)
    · rw [if_pos hf, if_pos (by rw [h.lim, h.cnt]; exact hf)]
      exact ⟨rfl, rfl, h⟩
    · rw [if_neg hf, if_neg (by rw [h.lim, h.cnt]; exact hf)]
      refine ⟨by show r.last + 1 = s.last + 1; rw [h.last], rfl, ?_⟩
      have h2 := h.put hv hI m
      exact ⟨h2.lim, h2.last, h2.cnt, h2.ml, by show r.d0 + 1 = s.sent + 1; rw [h.a], h2.b, h2.c, h2.d, h2.keys, h2.ms, h2.conn⟩
  · rw [if_neg hp, if_neg hp]
    exact ⟨rfl, rfl, h⟩
theorem MatchS.peek (h : MatchS s r) {x : Int} (hx : I64 x) : peekQ r x = peekR s x := by
  unfold peekQ peekR
  rcases h.at_ hx with ⟨h1, h2⟩ | ⟨k, hk, h1, h2, h3⟩
  · rw [h1, h2]
  · rw [h1, h3]
theorem MatchS.del (h : MatchS s r) {x : Int} (hx : I64 x) : (delQ r x).1 = (delR s x).1 ∧ (delQ r x).2.1 = (delR s x).2.1 ∧ MatchS (delR s x).2.2 (delQ r x).2.2 := by
  unfold delQ delR
  rcases h.at_ hx with ⟨h1, h2⟩ | ⟨k, hk, h1, h2, h3⟩
  · rw [h1, h2]; exact ⟨rfl, rfl, h⟩
  · rw [h1, h3]
    simp only [h.conn]
    split
    · refine ⟨rfl, rfl, ?_⟩
      have h4 := h.rem hk h2
      exact ⟨h4.lim, h4.last, h4.cnt, h4.ml, h4.a, h4.b, by show r.d2 + 1 = s.taken + 1; rw [h.c], h4.d, h4.keys, h4.ms, h4.conn⟩
    · exact ⟨rfl, rfl, h⟩
theorem MatchS.drop (h : MatchS s r) {x : Int} (hx : I64 x) : (dropQ r x).1 = (dropR s x).1 ∧ MatchS (dropR s x).2 (dropQ r x).2 := by
  unfold dropQ dropR
  rcases h.at_ hx with ⟨h1, h2⟩ | ⟨k, hk, h1, h2, h3⟩
  · rw [h1, h2]; exact ⟨rfl, h⟩
  · rw [h1, h3]
    refine ⟨rfl, ?_⟩
    have h4 := h.rem hk h2
    exact ⟨h4.lim, h4.last, h4.cnt, h4.ml, h4.a, h4.b, h4.c, by show r.d3 + 1 = s.gone + 1; rw [h.d], h4.keys, h4.ms, h4.conn⟩
theorem MatchS.dup (h : MatchS s r) (hv : InvS l s i) (hI : s.last < 4611686018427387904) {x : Int} (hx : I64 x) : (dupQ r x).1 = (dupR s x).1 ∧ (dupQ r x).2.1 = (dupR s x).2.1 ∧ MatchS (dupR s x).2.2 (dupQ r x).2.2 := by
  unfold dupQ dupR
  rcases h.at_ hx with ⟨h1, h2⟩ | ⟨k, hk, h1, h2, h3⟩
  · rw [h1, h2]; exact ⟨rfl, rfl, h⟩
  · rw [h1, h3]
    simp only
    by_cases hf : s.limit ≤ (s.cnt : Int)
    · rw [if_pos hf, if_pos (by rw [h.lim, h.cnt]; exact hf)]
      exact ⟨rfl, rfl, h⟩
    · rw [if_neg hf, if_neg (by rw [h.lim, h.cnt]; exact hf)]
      refine ⟨by show r.last + 1 = s.last + 1; rw [h.last], rfl, ?_⟩
      have h4 := h.put hv hI (msgQ r k)
      exact ⟨h4.lim, h4.last, h4.cnt, h4.ml, h4.a, by show r.d1 + 1 = s.twice + 1; rw [h.b], h4.c, h4.d, h4.keys, h4.ms, h4.conn⟩
theorem MatchS.part (h : MatchS s r) (gs : List (List GI)) : (partQ r gs).1 = (partR s gs).1 ∧ MatchS (partR s gs).2 (partQ r gs).2 := by
  unfold partQ partR
  cases hp : partG gs with
  | none => exact ⟨rfl, h⟩
  | some f => exact ⟨rfl, h.lim, h.last, h.cnt, h.ml, h.a, h.b, h.c, h.d, h.keys, h.ms, fun x y => rconn_part hp x y⟩
theorem MatchS.heal (h : MatchS s r) : MatchS { s with grp := none } (healQ r) :=
  ⟨h.lim, h.last, h.cnt, h.ml, h.a, h.b, h.c, h.d, h.keys, h.ms, fun x y => rconn_open [] x y⟩
end
/-- What the reference calls deliverable. -/
def goQ (r : RefS) (i : Nat) : Bool := rconnB r.split r.gs (msgQ r i).frm (msgQ r i).to
end Go.Proofs.Ytmcdmcnbnnfhnaa
namespace Go.Proofs.Ytmcdmcnbnnfhnaa
open Go.RowKit
set_option maxRecDepth 100000

def refC (r : RefS) (nv mv gv : Value) : Array Value := #[.int .i64 r.limit, nv, mv, .int .i64 r.last, .bool r.split, gv, .int .i64 r.d0, .int .i64 r.d1, .int .i64 r.d2, .int .i64 r.d3]
/-- The groups: as they came in, or in a row of the network's own (Q) whose elements are as they came in. -/
def GrpR (B : Nat) (Q : Nat → Prop) (w : World) (gv : Value) (gs : List (List GI)) : Prop :=
  ReadsD (fun k => k < B) w gv (groupsD gs) ∨ ∃ g cells, gv.ownBlock = some g ∧ Q g ∧ w.ownsRow 0 59 1 gv gs.length cells ∧ gs.length ≤ 1048576 ∧ ∀ j (h : j < gs.length), ∃ u, cells[j]? = some u ∧ ReadsD (fun k => k < B) w u (rowD gs[j])
section
variable {B : Nat} {Q Q' : Nat → Prop} {w w' : World} {gv : Value} {gs : List (List GI)}
theorem GrpR.turn (h : GrpR B Q w gv gs) (hs : w.heap.size ≤ w'.heap.size) (hk : ∀ k, k < B ∨ Q k → k < w.heap.size → w'.heap[k]? = w.heap[k]?) (hq : ∀ k, Q k → k < w.heap.size → Q' k) : GrpR B Q' w' gv gs := by
  rcases h with h | ⟨g, cells, h1, h2, h3, h4, h5⟩
  · exact .inl (h.keep hs fun k hp hlt => hk k (.inl hp) hlt)
  · have hlt := (h3.lt g h1).2
    refine .inr ⟨g, cells, h1, hq g h2 hlt, ownK_keep h3 fun g' e => hk g' (.inr ?_) (h3.lt g' e).2, h4, fun j hj => ?_⟩
    · rw [h1] at e; injection e with e; exact e ▸ h2
    · obtain ⟨u, a, b⟩ := h5 j hj
      exact ⟨u, a, b.keep hs fun k hp hlt => hk k (.inl hp) hlt⟩
theorem GrpR.reads (h : GrpR B Q w gv gs) : ReadsD (fun k => k < B ∨ Q k) w gv (groupsD gs) := by
  rcases h with h | ⟨g, cells, h1, h2, h3, h4, h5⟩
  · exact h.mono fun k hk _ => .inl hk
  · have hlt := (h3.lt g h1).2
    rcases h3.2 with ⟨rfl, -⟩ | ⟨g', cap, cur, rfl, -, hg, hn, hm, hc, htk⟩
    · cases h1
    · have e1 : g' = g := by injection h1
      subst e1
      cases gs with
      | nil => exact .nil 1 _ cap hm (fun e => by cases e)
      | cons x gs' =>
        have hcell : ∀ j (hj : j < (x :: gs').length), w.cell? ⟨g', j, none⟩ = cells[j]? := fun j hj => by
          rw [cell_of_row w g' j cur _ (0, 0) hg, ← htk, List.getElem?_take, if_pos (by omega), Array.getElem?_toList]
        have hb : Blk w g' 59 cur := hg
        have hlen : ((x :: gs').map fun g => [rowD g]).length = (x :: gs').length := by rw [List.length_map]
        have key : ReadsD (fun k => k < B ∨ Q k) w (.slice (some ⟨g', 0, none⟩) ((x :: gs').map fun g => [rowD g]).length cap) (groupsD (x :: gs')) := by
          refine .ls (fun j _ => (cells[j]?).getD undef) (by simp) (by rw [hlen]; exact h4) (by rw [hlen]; exact hn) hm (.inr h2) hlt (fun q _ => hb.frozen _) (fun j hj => by rw [List.getElem_map]; rfl) (fun j hj i hi => ?_) fun j hj i hi => ?_
          · rw [hlen] at hj
            have hi0 : i = 0 := by omega
            subst hi0
            obtain ⟨u, a, -⟩ := h5 j hj
            rw [show 0 + j * 1 + 0 = j by omega, hcell j hj, a]
            rfl
          · have hj' : j < (x :: gs').length := by rw [hlen] at hj; exact hj
            obtain ⟨u, a, b⟩ := h5 j hj'
            have hi0 : i = 0 := by
              have : ((x :: gs').map fun g => [rowD g])[j].length = 1 := by rw [List.getElem_map]; rfl
              omega
            subst hi0
            have e2 : ((x :: gs').map fun g => [rowD g])[j][0] = rowD (x :: gs')[j] := by simp only [List.getElem_map]; rfl
            rw [e2]
            show ReadsD _ w ((cells[j]?).getD undef) _
            rw [a]
            exact b.mono fun k hk _ => .inl hk
        rw [hlen] at key
        exact key
end
/-- What hangs on the reference network: its lists and its groups. B: what came in lies below; R: the blocks that are the network's own. -/
structure RParts (B : Nat) (R : Nat → Prop) (u : Nat) (nv mv gv : Value) (nums : List Int) (msgs : List MsgM) (gs : List (List GI)) (w : World) : Prop where
  ru : R u
  ul : u < w.heap.size
  rb : ∀ k, R k → B ≤ k
  bw : B ≤ w.heap.size
  nums : w.ownsRow B 3 1 nv nums.length (nums.map vi)
  msgs : KeptL B B w mv msgs
  grp : GrpR B (fun k => R k ∧ k ≠ u ∧ nv.ownBlock ≠ some k ∧ mv.ownBlock ≠ some k) w gv gs
  rn : ∀ k, nv.ownBlock = some k → R k ∧ k ≠ u
  rm : ∀ k, mv.ownBlock = some k → R k ∧ k ≠ u ∧ nv.ownBlock ≠ some k
structure RefAt (B : Nat) (R : Nat → Prop) (u : Nat) (nv mv gv : Value) (r : RefS) (w : World) : Prop where
  box : Blk w u 120 (refC r nv mv gv)
  parts : RParts B R u nv mv gv r.nums r.msgs r.gs w
section
variable {B u : Nat} {R R' : Nat → Prop} {nv nv' mv mv' gv gv' : Value} {nums nums' : List Int} {msgs msgs' : List MsgM} {gs gs' : List (List GI)} {w w' : World} {r r' : RefS}
theorem RParts.nlt (h : RParts B R u nv mv gv nums msgs gs w) {k : Nat} (hk : nv.ownBlock = some k) : k < w.heap.size := (h.nums.lt k hk).2
theorem RParts.mlt (h : RParts B R u nv mv gv nums msgs gs w) {k : Nat} (hk : mv.ownBlock = some k) : k < w.heap.size := (h.msgs.own hk).2
theorem RParts.keep (h : RParts B R u nv mv gv nums msgs gs w) (hs : w.heap.size ≤ w'.heap.size) (hk : ∀ k, k < B ∨ (R k ∧ k ≠ u) → k < w.heap.size → w'.heap[k]? = w.heap[k]?) : RParts B R u nv mv gv nums msgs gs w' := by
  have hbw := h.bw
  refine ⟨h.ru, Nat.lt_of_lt_of_le h.ul hs, h.rb, Nat.le_trans h.bw hs, ownK_keep h.nums fun g e => hk g (.inr (h.rn g e)) (h.nlt e), h.msgs.keep hs (fun b hb => hk b (.inl hb) (by omega)) fun g e => hk g (.inr ⟨(h.rm g e).1, (h.rm g e).2.1⟩) (h.mlt e), h.grp.turn hs (fun k hp hlt => hk k (hp.imp id fun q => ⟨q.1, q.2.1⟩) hlt) (fun _ q _ => q), h.rn, h.rm⟩
theorem RParts.on (h : RParts B R u nv mv gv nums msgs gs w) (hb : Below w.heap.size w w') : RParts B R u nv mv gv nums msgs gs w' := h.keep hb.size fun k _ hlt => hb.block k hlt
theorem RParts.kept {S : Nat → Prop} (h : RParts B R u nv mv gv nums msgs gs w) (hk : Kept S w w') (hs : ∀ k, S k → ¬ (k < B ∨ (R k ∧ k ≠ u))) : RParts B R u nv mv gv nums msgs gs w' := h.keep hk.size fun k hp hlt => hk.block k hlt fun q => hs k q hp
theorem RParts.mono (h : RParts B R u nv mv gv nums msgs gs w) (hp : ∀ k, R k → k < w.heap.size → R' k) (hb : ∀ k, R' k → B ≤ k) : RParts B R' u nv mv gv nums msgs gs w :=
  ⟨hp u h.ru h.ul, h.ul, hb, h.bw, h.nums, h.msgs, h.grp.turn (Nat.le_refl _) (fun _ _ _ => rfl) fun k q hlt => ⟨hp k q.1 hlt, q.2⟩, fun k e => ⟨hp k (h.rn k e).1 (h.nlt e), (h.rn k e).2⟩, fun k e => ⟨hp k (h.rm k e).1 (h.mlt e), (h.rm k e).2⟩⟩
/-- The list of numbers is another one: grown where it was, or in a new block. -/
theorem RParts.setN (h : RParts B R u nv mv gv nums msgs gs w) (hR : ∀ k, w.heap.size ≤ k → R k) (hk : Kept (fun k => nv.ownBlock = some k) w w') (hrow : w'.ownsRow B 3 1 nv' nums'.length (nums'.map vi)) (hv : nv'.ownBlock = nv.ownBlock ∨ ∀ k, nv'.ownBlock = some k → w.heap.size ≤ k) : RParts B R u nv' mv gv nums' msgs gs w' := by
  have hbw := h.bw
  have hul := h.ul
  have hnew : ∀ k, nv'.ownBlock = some k → nv.ownBlock = some k ∨ w.heap.size ≤ k := fun k e => by
    rcases hv with h1 | h1
    · exact .inl (h1 ▸ e)
    · exact .inr (h1 k e)
  refine ⟨h.ru, Nat.lt_of_lt_of_le h.ul hk.size, h.rb, Nat.le_trans h.bw hk.size, hrow, ?_, ?_, fun k e => ?_, fun k e => ?_⟩
  · refine h.msgs.keep hk.size (fun b hb => hk.block b (by omega) fun e => ?_) fun g e => hk.block g (h.mlt e) fun e' => (h.rm g e).2.2 e'
    have := h.rb b (h.rn b e).1
    omega
  · refine h.grp.turn hk.size (fun k q hlt => hk.block k hlt fun e => ?_) fun k q hlt => ⟨q.1, q.2.1, fun e => ?_, q.2.2.2⟩
    · rcases q with q' | q'
      · have := h.rb k (h.rn k e).1; omega
      · exact q'.2.2.1 e
    · rcases hnew k e with h1 | h1
      · exact q.2.2.1 h1
      · omega
  · rcases hnew k e with h1 | h1
    · exact h.rn k h1
    · exact ⟨hR k h1, by omega⟩
  · refine ⟨(h.rm k e).1, (h.rm k e).2.1, fun e' => ?_⟩
    rcases hnew k e' with h1 | h1
    · exact (h.rm k e).2.2 h1
    · have := h.mlt e; omega
/-- The list of messages is another one. -/
theorem RParts.setM (h : RParts B R u nv mv gv nums msgs gs w) (hR : ∀ k, w.heap.size ≤ k → R k) (hk : Kept (fun k => mv.ownBlock = some k) w w') (hrow : KeptL B B w' mv' msgs') (hv : mv'.ownBlock = mv.ownBlock ∨ ∀ k, mv'.ownBlock = some k → w.heap.size ≤ k) : RParts B R u nv mv' gv nums msgs' gs w' := by
  have hbw := h.bw
  have hul := h.ul
  have hnew : ∀ k, mv'.ownBlock = some k → mv.ownBlock = some k ∨ w.heap.size ≤ k := fun k e => by
    rcases hv with h1 | h1
    · exact .inl (h1 ▸ e)
    · exact .inr (h1 k e)
  refine ⟨h.ru, Nat.lt_of_lt_of_le h.ul hk.size, h.rb, Nat.le_trans h.bw hk.size, ownK_keep h.nums fun g e => hk.block g (h.nlt e) fun e' => (h.rm g e').2.2 e, hrow, ?_, h.rn, fun k e => ?_⟩
  · refine h.grp.turn hk.size (fun k q hlt => hk.block k hlt fun e => ?_) fun k q hlt => ⟨q.1, q.2.1, q.2.2.1, fun e => ?_⟩
    · rcases q with q' | q'
      · have := h.rb k (h.rm k e).1; omega
      · exact q'.2.2.2 e
    · rcases hnew k e with h1 | h1
      · exact q.2.2.2 h1
      · omega
  · rcases hnew k e with h1 | h1
    · exact h.rm k h1
    · exact ⟨hR k h1, by omega, fun e' => by have := h.nlt e'; omega⟩
/-- The groups are others. -/
theorem RParts.setG (h : RParts B R u nv mv gv nums msgs gs w) (hg : GrpR B (fun k => R k ∧ k ≠ u ∧ nv.ownBlock ≠ some k ∧ mv.ownBlock ≠ some k) w gv' gs') : RParts B R u nv mv gv' nums msgs gs' w :=
  ⟨h.ru, h.ul, h.rb, h.bw, h.nums, h.msgs, hg, h.rn, h.rm⟩
/-- A store into the network's own box. -/
theorem RParts.box (h : RParts B R u nv mv gv nums msgs gs w) (i : Nat) (x : Value) : RParts B R u nv mv gv nums msgs gs (w.setCell ⟨u, i, none⟩ x) :=
  h.kept (S := fun k => k = u) (Kept.set _ rfl) fun k e q => by
    subst e
    rcases q with q | q
    · have := h.rb k h.ru; omega
    · exact q.2 rfl
theorem RefAt.keep (h : RefAt B R u nv mv gv r w) (hs : w.heap.size ≤ w'.heap.size) (hk : ∀ k, k < B ∨ R k → k < w.heap.size → w'.heap[k]? = w.heap[k]?) : RefAt B R u nv mv gv r w' :=
  ⟨(hk u (.inr h.parts.ru) h.parts.ul).trans h.box, h.parts.keep hs fun k q hlt => hk k (q.imp id fun q => q.1) hlt⟩
theorem RefAt.on (h : RefAt B R u nv mv gv r w) (hb : Below w.heap.size w w') : RefAt B R u nv mv gv r w' := h.keep hb.size fun k _ hlt => hb.block k hlt
theorem RefAt.kept {S : Nat → Prop} (h : RefAt B R u nv mv gv r w) (hk : Kept S w w') (hs : ∀ k, S k → ¬ (k < B ∨ R k)) : RefAt B R u nv mv gv r w' := h.keep hk.size fun k hp hlt => hk.block k hlt fun q => hs k q hp
theorem RefAt.mono (h : RefAt B R u nv mv gv r w) (hp : ∀ k, R k → k < w.heap.size → R' k) (hb : ∀ k, R' k → B ≤ k) : RefAt B R' u nv mv gv r w := ⟨h.box, h.parts.mono hp hb⟩
/-- A field written that is a number or a mark. -/
theorem RefAt.set (h : RefAt B R u nv mv gv r w) {r' : RefS} (i : Nat) (x : Value) (hc : refC r' nv mv gv = (refC r nv mv gv).setIfInBounds i x) (e1 : r'.nums = r.nums) (e2 : r'.msgs = r.msgs) (e3 : r'.gs = r.gs) : RefAt B R u nv mv gv r' (w.setCell ⟨u, i, none⟩ x) := by
  refine ⟨by rw [hc]; exact h.box.set_ i x, ?_⟩
  rw [e1, e2, e3]
  exact h.parts.box i x
theorem RefAt.reads (h : RefAt B R u nv mv gv r w) : Reads vi w nv r.nums := Reads.of_owns h.parts.nums
/-- At the start. -/
theorem RefAt.new (l : Int) (hB : B ≤ w.heap.size) : RefAt B (fun k => k = w.heap.size) w.heap.size (.slice none 0 0) (.slice none 0 0) (.slice none 0 0) (newQ l) (w.alloc (.cells (refC (newQ l) (.slice none 0 0) (.slice none 0 0) (.slice none 0 0)) 120)) := by
  refine ⟨Blk.new w _ _, ⟨rfl, by rw [World.size_alloc]; omega, fun k e => by omega, by rw [World.size_alloc]; omega, by simp [World.ownsRow, newQ], ⟨[], by simp [World.ownsRow, newQ], fun k hk => absurd hk (Nat.not_lt_zero _)⟩, .inl (.nil 1 none 0 (by simp [maxLen]) fun _ => rfl), fun k e => ?_, fun k e => ?_⟩⟩
  · cases e
  · cases e
end
/-- What stands in memory for a list of messages. -/
def MsgRow (B0 : Nat) (w : World) (cells : List Value) (L : List MsgM) : Prop := cells.length = L.length * 15 ∧ ∀ k (h : k < L.length), ∃ cs : List Value, (∀ i, i < 15 → cells[k * 15 + i]? = cs[i]?) ∧ CellsD (fun b => b < B0) w cs (msgD L[k])
theorem KeptL.row {B0 B : Nat} {w : World} {v : Value} {L : List MsgM} (h : KeptL B0 B w v L) : ∃ cells, w.ownsRow B 39 15 v L.length cells ∧ MsgRow B0 w cells L := by
  obtain ⟨cells, h1, h2⟩ := h
  exact ⟨cells, h1, h1.1, h2⟩
theorem KeptL.of {B0 B : Nat} {w : World} {v : Value} {L : List MsgM} {cells : List Value} (h1 : w.ownsRow B 39 15 v L.length cells) (h2 : MsgRow B0 w cells L) : KeptL B0 B w v L := ⟨cells, h1, h2.2⟩
theorem MsgRow.keep {B0 : Nat} {w w' : World} {cells : List Value} {L : List MsgM} (h : MsgRow B0 w cells L) (hs : w.heap.size ≤ w'.heap.size) (hb : ∀ b, b < B0 → b < w.heap.size → w'.heap[b]? = w.heap[b]?) : MsgRow B0 w' cells L :=
  ⟨h.1, fun k hk => by
    obtain ⟨cs, h1, h2⟩ := h.2 k hk
    exact ⟨cs, h1, cells_keep h2 hs hb⟩⟩
theorem MsgRow.take {B0 : Nat} {w : World} {cells : List Value} {L : List MsgM} (h : MsgRow B0 w cells L) {i : Nat} (hi : i ≤ L.length) : MsgRow B0 w (cells.take (i * 15)) (L.take i) := by
  have hl := h.1
  have hil : i * 15 ≤ L.length * 15 := Nat.mul_le_mul_right 15 hi
  refine ⟨by rw [List.length_take, List.length_take]; omega, fun k hk => ?_⟩
  rw [List.length_take] at hk
  obtain ⟨cs, h1, h2⟩ := h.2 k (by omega)
  refine ⟨cs, fun j hj => ?_, by rw [List.getElem_take]; exact h2⟩
  rw [List.getElem?_take, if_pos (by omega)]
  exact h1 j hj
theorem MsgRow.drop {B0 : Nat} {w : World} {cells : List Value} {L : List MsgM} (h : MsgRow B0 w cells L) {i : Nat} (hi : i ≤ L.length) : MsgRow B0 w (cells.drop (i * 15)) (L.drop i) := by
  have hl := h.1
  have hil : i * 15 ≤ L.length * 15 := Nat.mul_le_mul_right 15 hi
  refine ⟨by rw [List.length_drop, List.length_drop, Nat.sub_mul]; omega, fun k hk => ?_⟩
  rw [List.length_drop] at hk
  obtain ⟨cs, h1, h2⟩ := h.2 (i + k) (by omega)
  refine ⟨cs, fun j hj => ?_, by rw [List.getElem_drop]; exact h2⟩
  rw [List.getElem?_drop, ← h1 j hj]
  congr 1
  omega
theorem MsgRow.app {B0 : Nat} {w : World} {cells cells' : List Value} {L L' : List MsgM} (h : MsgRow B0 w cells L) (h' : MsgRow B0 w cells' L') : MsgRow B0 w (cells ++ cells') (L ++ L') := by
  have hl := h.1
  have hl' := h'.1
  refine ⟨by rw [List.length_append, List.length_append]; omega, fun k hk => ?_⟩
  rw [List.length_append] at hk
  by_cases e : k < L.length
  · obtain ⟨cs, h1, h2⟩ := h.2 k e
    refine ⟨cs, fun j hj => ?_, by rw [List.getElem_append_left e]; exact h2⟩
    rw [List.getElem?_append_left (by omega)]
    exact h1 j hj
  · obtain ⟨cs, h1, h2⟩ := h'.2 (k - L.length) (by omega)
    refine ⟨cs, fun j hj => ?_, by rw [List.getElem_append_right (by omega)]; exact h2⟩
    rw [List.getElem?_append_right (by omega), ← h1 j hj]
    congr 1
    omega
theorem MsgRow.one {B0 : Nat} {w : World} {cells : List Value} {L : List MsgM} (h : MsgRow B0 w cells L) : ∀ u ∈ cells, u.oneCell' = true := by
  intro u hu
  obtain ⟨j, hj, rfl⟩ := List.getElem_of_mem hu
  have hl := h.1
  obtain ⟨cs, h1, h2⟩ := h.2 (j / 15) (by omega)
  have h3 := h1 (j % 15) (Nat.mod_lt _ (by decide))
  rw [show j / 15 * 15 + j % 15 = j by omega, List.getElem?_eq_getElem hj] at h3
  have h4 := CellsD.all h2
  rw [Array.all_eq_true'] at h4
  exact h4 _ (by simpa using List.mem_of_getElem? h3.symm)
theorem MsgRow.nil (B0 : Nat) (w : World) : MsgRow B0 w [] [] := ⟨rfl, fun _k hk => absurd hk (Nat.not_lt_zero _)⟩
end Go.Proofs.Ytmcdmcnbnnfhnaa
namespace Go.Proofs.Ytmcdmcnbnnfhnaa
open Go.RowKit

def valsOf (ks : List Nat) (st : Nat → Value) : Nat → Value := fun i => match ks[i]? with | some k => st k | none => undef
def upW (vals : Nat → Value) (i : Nat) (v : Value) : Nat → Value := fun j => if j = i then v else vals j
/-- ks: the places of the writing operations; deps: what each of them waits for; Ws s: what holds when s of them are done. -/
def JS (deps : List (List Nat)) (ks : List Nat) (Ws : Nat → (Nat → Value) → World → Prop) : Inv := fun D st w =>
  ∃ s, s ≤ ks.length ∧ (∀ i k, ks[i]? = some k → D k = decide (i < s)) ∧ (∀ i, i < s → ∀ j ∈ deps.getD i [], D j = true) ∧ Ws s (valsOf ks st) w
section
variable {deps : List (List Nat)} {ks : List Nat} {Ws : Nat → (Nat → Value) → World → Prop} {D : Nat → Bool} {st : Nat → Value} {w w' : World}
theorem JS.start (h : ∀ vals, Ws 0 vals w) (st : Nat → Value) : JS deps ks Ws (fun _ => false) st w :=
  ⟨0, Nat.zero_le _, fun _ _ _ => rfl, fun _ hi => absurd hi (Nat.not_lt_zero _), h _⟩
theorem JS.pure (h : JS deps ks Ws D st w) (i : Nat) (u : Value) (hi : ks.contains i = false) : JS deps ks Ws (upD D i) (upV st i u) w := by
  obtain ⟨s, h1, h2, h3, h4⟩ := h
  have hne : ∀ j k, ks[j]? = some k → k ≠ i := fun j k hj e => by
    subst e
    have := List.mem_of_getElem? hj
    simp at hi
    exact hi this
  refine ⟨s, h1, fun j k hj => ?_, fun j hj q hq => ?_, ?_⟩
  · unfold upD
    rw [if_neg (hne j k hj)]
    exact h2 j k hj
  · unfold upD
    split
    · rfl
    · exact h3 j hj q hq
  · have e : valsOf ks (upV st i u) = valsOf ks st := by
      funext j
      unfold valsOf
      cases hj : ks[j]? with
      | none => rfl
      | some k => simp only [upV]; rw [if_neg (hne j k hj)]
    rw [e]
    exact h4
/-- What is not done holds back those that wait for it. -/
theorem JS.le (h : JS deps ks Ws D st w) (j : Nat) {i : Nat} (hd : (deps.getD j []).contains i = true) (hD : D i = false) : ∃ s, s ≤ j ∧ Ws s (valsOf ks st) w := by
  obtain ⟨s, h1, h2, h3, h4⟩ := h
  refine ⟨s, ?_, h4⟩
  rcases Nat.lt_or_ge j s with hlt | hge
  · have := h3 j hlt i (by simpa using hd)
    rw [hD] at this
    cases this
  · exact hge
/-- A writing operation's turn. -/
theorem JS.here (h : JS deps ks Ws D st w) (j k : Nat) (hk : ks[j]? = some k) (hD : D k = false) (hp : ∀ k', 0 < j → ks[j - 1]? = some k' → D k' = true) : Ws j (valsOf ks st) w := by
  obtain ⟨s, h1, h2, h3, h4⟩ := h
  have e1 := h2 j k hk
  rw [hD] at e1
  have e2 : ¬ j < s := by simpa using e1.symm
  have e3 : s = j := by
    rcases Nat.eq_zero_or_pos j with e | e
    · omega
    · have hjl := (List.getElem?_eq_some_iff.1 hk).1
      have hg : ks[j - 1]? = some ks[j - 1] := List.getElem?_eq_getElem (by omega)
      have h5 := hp _ e hg
      rw [h2 _ _ hg] at h5
      have : j - 1 < s := by simpa using h5
      omega
  subst e3
  exact h4
theorem JS.step (h : JS deps ks Ws D st w) (j k : Nat) (v : Value) (hk : ks[j]? = some k) (hD : D k = false) (hp : ∀ k', 0 < j → ks[j - 1]? = some k' → D k' = true) (hd : ∀ i ∈ deps.getD j [], D i = true) (hn : ks.Nodup)
    (hW : Ws (j + 1) (upW (valsOf ks st) j v) w') : JS deps ks Ws (upD D k) (upV st k v) w' := by
  obtain ⟨s, h1, h2, h3, h4⟩ := h
  have hjl := (List.getElem?_eq_some_iff.1 hk).1
  have e1 := h2 j k hk
  rw [hD] at e1
  have e2 : ¬ j < s := by simpa using e1.symm
  have e3 : s = j := by
    rcases Nat.eq_zero_or_pos j with e | e
    · omega
    · have hg : ks[j - 1]? = some ks[j - 1] := List.getElem?_eq_getElem (by omega)
      have h5 := hp _ e hg
      rw [h2 _ _ hg] at h5
      have : j - 1 < s := by simpa using h5
      omega
  subst e3
  have hinj : ∀ i k', ks[i]? = some k' → (k' = k ↔ i = s) := fun i k' hi => by
    constructor
    · intro e
      subst e
      have hil := (List.getElem?_eq_some_iff.1 hi).1
      rw [List.getElem?_eq_getElem hil] at hi
      rw [List.getElem?_eq_getElem hjl] at hk
      injection hi with hi
      injection hk with hk
      have hp := List.pairwise_iff_getElem.1 hn
      rcases Nat.lt_or_ge i s with h7 | h7
      · exact (hp i s hil hjl h7 (hi.trans hk.symm)).elim
      · rcases Nat.lt_or_ge s i with h8 | h8
        · exact (hp s i hjl hil h8 (hk.trans hi.symm)).elim
        · omega
    · intro e
      subst e
      rw [hk] at hi
      injection hi with hi
      exact hi.symm
  refine ⟨s + 1, hjl, fun i k' hi => ?_, fun i hi q hq => ?_, ?_⟩
  · unfold upD
    by_cases e : k' = k
    · rw [if_pos e]
      have := (hinj i k' hi).1 e
      simp; omega
    · rw [if_neg e, h2 i k' hi]
      have : i ≠ s := fun e' => e ((hinj i k' hi).2 e')
      by_cases h6 : i < s <;> simp <;> omega
  · unfold upD
    split
    · rfl
    · by_cases e : i = s
      · subst e; exact hd q hq
      · exact h3 i (by omega) q hq
  · have e : valsOf ks (upV st k v) = upW (valsOf ks st) s v := by
      funext i
      unfold valsOf upW
      cases hi : ks[i]? with
      | none =>
        simp only [hi]
        rw [if_neg (fun e => by subst e; rw [hk] at hi; cases hi)]
      | some k' =>
        simp only [upV, hi]
        by_cases e : k' = k
        · rw [if_pos e, if_pos ((hinj i k' hi).1 e)]
        · rw [if_neg e, if_neg fun e' => e ((hinj i k' hi).2 e')]
    rw [e]
    exact hW
theorem JS.done (h : JS deps ks Ws D st w) (hall : ∀ k ∈ ks, D k = true) : Ws ks.length (valsOf ks st) w := by
  obtain ⟨s, h1, h2, h3, h4⟩ := h
  have : s = ks.length := by
    rcases Nat.lt_or_ge s ks.length with hlt | hge
    · have h5 := h2 s ks[s] (List.getElem?_eq_getElem hlt)
      rw [hall _ (List.getElem_mem hlt)] at h5
      simp at h5
    · omega
  subst this
  exact h4
end
end Go.Proofs.Ytmcdmcnbnnfhnaa
namespace Go.Proofs.Ytmcdmcnbnnfhnaa
open Go.RowKit
set_option maxRecDepth 100000
set_option maxHeartbeats 4000000

def RNewMade (l : Int) (w : World) (e : Ending) (w' : World) : Prop := e = .returned (.pointer (some ⟨w.heap.size, 0, none⟩)) ∧ w' = w.alloc (.cells (refC (newQ l) (.slice none 0 0) (.slice none 0 0) (.slice none 0 0)) 120)
def RNoNew (w : World) (e : Ending) (w' : World) : Prop := e = .returned (.pointer none) ∧ w' = w
def IntIs (x : Int) (w : World) (e : Ending) (w' : World) : Prop := e = .returned (.int .i64 x) ∧ w' = w
theorem rnew_no (l : Int) (w : World) (h : ¬ okL l) : Calls Try.prog 23 #[.int .i64 l] w (RNoNew w) := by
  have HF : Hid (∀ e w', e = .returned (.pointer none) ∧ w' = w → RNoNew w e w') := Lib.hid fun _ _ h => h
  unfold okL at h
  generalize hQ : RNoNew w = Q at *
  clear hQ
  by_cases h1 : 1 ≤ l
  · have h2 : 65536 < l := by omega
    have e1 : decide (l < 1) = false := by simpa using h1
    clear h
    go_enter Try.func23, Try.ntmps23
    go_wp2
    exact HF.out _ _ ⟨rfl, rfl⟩
  · have e1 : decide (l < 1) = true := by simp; omega
    clear h h1
    go_enter Try.func23, Try.ntmps23
    go_wp2
    exact HF.out _ _ ⟨rfl, rfl⟩
theorem rnew_yes (l : Int) (w : World) (h : okL l) : Calls Try.prog 23 #[.int .i64 l] w (RNewMade l w) := by
  have HF : Hid (∀ e w', e = .returned (.pointer (some ⟨w.heap.size, 0, none⟩)) ∧ w' = w.alloc (.cells (refC (newQ l) (.slice none 0 0) (.slice none 0 0) (.slice none 0 0)) 120) → RNewMade l w e w') := Lib.hid fun _ _ h => h
  unfold okL at h
  have e1 : decide (l < 1) = false := by simpa using h.1
  have e2 : decide (65536 < l) = false := by simpa using h.2
  clear h
  generalize hQ : RNewMade l w = Q at *
  clear hQ
  go_enter Try.func23, Try.ntmps23
  go_wp2
  exact HF.out _ _ ⟨rfl, rfl⟩
theorem rprocess_any (p : Int) (w : World) : Calls Try.prog 73 #[.int .i64 p] w fun e w' => e = .returned (.bool (procB p)) ∧ w' = w := by
  unfold procB
  by_cases h1 : 0 ≤ p
  · have e1 : decide (0 ≤ p) = true := by simpa using h1
    by_cases h2 : p ≤ 63
    · have e2 : decide (p ≤ 63) = true := by simpa using h2
      rw [e1, e2]
      go_enter Try.func73, Try.ntmps73
      go_wp2
      go_ret
      exact ⟨rfl, rfl⟩
    · have e2 : decide (p ≤ 63) = false := by simpa using h2
      rw [e1, e2]
      go_enter Try.func73, Try.ntmps73
      go_wp2
      go_ret
      exact ⟨rfl, rfl⟩
  · have e1 : decide (0 ≤ p) = false := by simpa using h1
    rw [e1, Bool.false_and]
    go_enter Try.func73, Try.ntmps73
    go_wp2
    go_ret
    exact ⟨rfl, rfl⟩
section
variable {B u : Nat} {R : Nat → Prop} {nv mv gv : Value} {r : RefS} {w : World}
theorem place_yes {L : List Int} {x : Int} {k : Nat} (hk : k < L.length) (h : L[k] = x) (hno : ∀ j (hj : j < L.length), j < k → L[j] ≠ x) : placeN L x = some k := by
  unfold placeN
  rw [List.findIdx?_eq_some_iff_getElem]
  refine ⟨hk, by simpa using h, fun j hj => ?_⟩
  have := hno j (by omega) hj
  simpa using this
theorem place_no {L : List Int} {x : Int} (hno : ∀ j (hj : j < L.length), L[j] ≠ x) : placeN L x = none := by
  unfold placeN
  rw [List.findIdx?_eq_none_iff]
  intro y hy
  obtain ⟨j, hj, rfl⟩ := List.getElem_of_mem hy
  simpa using hno j hj
theorem rplace_any (x : Int) (h : RefAt B R u nv mv gv r w) (hn : r.nums.length ≤ 1000000000) : Calls Try.prog 75 #[.pointer (some ⟨u, 0, none⟩), .int .i64 x] w (IntIs (optI (placeN r.nums x)) w) := by
  have hrd := h.reads
  have HR := Lib.hid hrd
  obtain ⟨ao, cap, rfl, hl, hm, -, -⟩ := hrd
  have d1 : w.cell? ⟨u, 1, none⟩ = some (.slice ao r.nums.length cap) := h.box.cell 1
  clear h
  generalize r.nums = L at *
  have HF : Hid (∀ p e w', placeN L x = p → e = .returned (.int .i64 (optI p)) ∧ w' = w → IntIs (optI (placeN L x)) w e w') := Lib.hid fun p e w' h1 h2 => by subst h1; exact h2
  generalize hQ : IntIs (optI (placeN L x)) w = Q at *
  clear hQ
  go_enter Try.func75, Try.ntmps75
  go_wp2
  go_loopg [5] L.length (fun mm i wr => ∃ k : Nat, mm + k = L.length ∧ i = .int .i64 k ∧ wr = w ∧ ∀ j (hj : j < L.length), j < k → L[j] ≠ x)
  case atStart => exact ⟨0, by omega, rfl, rfl, fun j _ hj => absurd hj (Nat.not_lt_zero _)⟩
  case round =>
    obtain ⟨k, hmk, rfl, rfl, hno⟩ := hrel
    have HM := Lib.hid hmk
    have HNO := Lib.hid hno
    have hk0 : (0 : Int) ≤ (k : Int) := by omega
    have hk1 : k ≤ L.length := by omega
    clear hmk hno
    by_cases hlt : k < L.length
    · have hki : (k : Int) < L.length := by omega
      obtain ⟨b1, o1, c1, hv, hb1, hcell⟩ := int_at HR.out hlt
      injection hv with e1 e2 e3
      subst e1
      clear e2 e3
      have HLT := Lib.hid hlt
      unfold vi at hcell
      have HYES := Lib.hid fun h => place_yes (x := x) hlt h HNO.out
      have HN2 : Hid (L[k] ≠ x → ∀ j (hj : j < L.length), j < k + 1 → L[j] ≠ x) := Lib.hid fun hx j hj hj2 => by
        by_cases e : j = k
        · subst e; exact hx
        · exact HNO.out j hj (by omega)
      generalize L[k] = y at *
      clear hlt
      by_cases hx : y = x
      · have HP := Lib.hid (HYES.out hx)
        have n1 : (y == x) = true := beq_t hx
        clear hx
        go_wp2
        exact HF.out (some k) _ _ HP.out ⟨rfl, rfl⟩
      · have HN3 := Lib.hid (HN2.out hx)
        have n1 : (y == x) = false := beq_f hx
        clear hx
        go_wp2
        go_roundg (L.length - (k + 1))
        case measure => have := HM.out; have := HLT.out; omega
        case rel => exact ⟨k + 1, by have := HLT.out; omega, by go_num, rfl, HN3.out⟩
    · have hki : ¬ (k : Int) < L.length := by omega
      have HP := Lib.hid (place_no (L := L) (x := x) fun j hj => HNO.out j hj (by omega))
      clear hlt
      go_wp2
      exact HF.out none _ _ HP.out ⟨rfl, rfl⟩
theorem group_yes {gs : List (List GI)} {a : Int} {k : Nat} (hk : k < gs.length) (h : hasB gs[k] a = true) (hno : ∀ j (hj : j < gs.length), j < k → hasB gs[j] a = false) : grpN gs a = some k := by
  unfold grpN
  rw [List.findIdx?_eq_some_iff_getElem]
  refine ⟨hk, h, fun j hj => ?_⟩
  have := hno j (by omega) hj
  simpa using this
theorem group_no {gs : List (List GI)} {a : Int} (hno : ∀ j (hj : j < gs.length), hasB gs[j] a = false) : grpN gs a = none := by
  unfold grpN
  rw [List.findIdx?_eq_none_iff]
  intro y hy
  obtain ⟨j, hj, rfl⟩ := List.getElem_of_mem hy
  exact hno j hj
theorem hasB_at {g : List GI} {a : Int} {q : Nat} (hq : q < g.length) (h : g[q].n = a) : hasB g a = true := hasB_mem.2 ⟨g[q], List.getElem_mem hq, h⟩
theorem hasB_no {g : List GI} {a : Int} (h : ∀ q (hq : q < g.length), g[q].n ≠ a) : hasB g a = false := by
  cases hb : hasB g a with
  | false => rfl
  | true =>
    obtain ⟨x, hx, hxa⟩ := hasB_mem.1 hb
    obtain ⟨q, hq, rfl⟩ := List.getElem_of_mem hx
    exact (h q hq hxa).elim
theorem rgroup_any (a : Int) (h : RefAt B R u nv mv gv r w) : Calls Try.prog 77 #[.pointer (some ⟨u, 0, none⟩), .int .i64 a] w (IntIs (optI (grpN r.gs a)) w) := by
  have hg := h.parts.grp.reads
  have d5 : w.cell? ⟨u, 5, none⟩ = some gv := h.box.cell 5
  obtain ⟨ao, cap, rfl, hl, hm, -, hL⟩ := ReadsD.slcM (f := fun g : List GI => [rowD g]) hg
  unfold maxLen at hm
  have HG := Lib.hid hg
  clear h hg
  generalize r.gs = gs at *
  have HF : Hid (∀ p e w', grpN gs a = p → e = .returned (.int .i64 (optI p)) ∧ w' = w → IntIs (optI (grpN gs a)) w e w') := Lib.hid fun p e w' h1 h2 => by subst h1; exact h2
  generalize hQ : IntIs (optI (grpN gs a)) w = Q at *
  clear hQ
  go_enter Try.func77, Try.ntmps77
  go_wp2
  go_loopg [5] gs.length (fun mm i wr => ∃ k : Nat, mm + k = gs.length ∧ i = .int .i64 k ∧ wr = w ∧ ∀ j (hj : j < gs.length), j < k → hasB gs[j] a = false)
  case atStart => exact ⟨0, by omega, rfl, rfl, fun j _ hj => absurd hj (Nat.not_lt_zero _)⟩
  case round =>
    obtain ⟨k, hmk, rfl, rfl, hno⟩ := hrel
    have HM := Lib.hid hmk
    have HNO := Lib.hid hno
    have hk0 : (0 : Int) ≤ (k : Int) := by omega
    have hk1 : k ≤ gs.length := by omega
    clear hmk hno
    by_cases hlt : k < gs.length
    · have hki : (k : Int) < gs.length := by omega
      obtain ⟨b1, o1, c1, cs1, e1, -, -, -, -, g1, q1⟩ := ReadsD.item (f := fun g : List GI => [rowD g]) HG.out hlt
      injection e1 with e1 e2 e3
      subst e1
      clear e2 e3
      have HYES := Lib.hid fun h => group_yes (a := a) hlt h HNO.out
      have HLT := Lib.hid hlt
      have HN2 : Hid (hasB gs[k] a = false → ∀ j (hj : j < gs.length), j < k + 1 → hasB gs[j] a = false) := Lib.hid fun hx j hj hj2 => by
        by_cases e : j = k
        · subst e; exact hx
        · exact HNO.out j hj (by omega)
      generalize gs[k] = g at *
      obtain ⟨rv, cs2, rfl, r1, qq⟩ := q1.cons
      obtain rfl := qq.nil
      clear q1 qq
      obtain ⟨ro, rk, rfl, hrl, hrm, -, hrL⟩ := ReadsD.slcM (f := fun x : GI => [iD x.n]) r1
      unfold maxLen at hrm
      have HRW := Lib.hid r1
      rename World => w1
      have d1 : w1.cell? ⟨b1, o1 + k, none⟩ = some (.slice ro g.length rk) := by have h := g1 w1 (Below.refl _ _) 0 _ rfl; simpa only [Nat.mul_one, Nat.add_zero] using h
      clear g1 r1 hlt
      obtain ⟨G, hG⟩ : ∃ G, G = gk := ⟨_, rfl⟩
      subst hG
      go_wp2
      go_loopg [6] g.length (fun mm j wr => ∃ q : Nat, mm + q = g.length ∧ j = .int .i64 q ∧ wr = w1 ∧ ∀ z (hz : z < g.length), z < q → g[z].n ≠ a)
      case atStart => exact ⟨0, by omega, rfl, rfl, fun j _ hj => absurd hj (Nat.not_lt_zero _)⟩
      case round =>
        obtain ⟨q, hmq, rfl, rfl, hno2⟩ := hrel
        rename World => w2
        have HM2 := Lib.hid hmq
        have HNO2 := Lib.hid hno2
        have hq0 : (0 : Int) ≤ (q : Int) := by omega
        have hq1 : q ≤ g.length := by omega
        clear hmq hno2
        by_cases hlq : q < g.length
        · have hqi : (q : Int) < g.length := by omega
          obtain ⟨b2, o2, c2, cs2, e1, -, -, -, -, g2, q2⟩ := ReadsD.item (f := fun x : GI => [iD x.n]) HRW.out hlq
          injection e1 with e1 e2 e3
          subst e1
          clear e2 e3
          have HLQ := Lib.hid hlq
          have HYB := Lib.hid fun h => hasB_at (a := a) hlq h
          have HN3 : Hid (g[q].n ≠ a → ∀ z (hz : z < g.length), z < q + 1 → g[z].n ≠ a) := Lib.hid fun hx z hz hz2 => by
            by_cases e : z = q
            · subst e; exact hx
            · exact HNO2.out z hz (by omega)
          generalize g[q] = p at *
          obtain ⟨pv, cs3, rfl, r2, qq⟩ := q2.cons
          obtain rfl := qq.nil
          have r3 := r2.i
          subst r3
          clear q2 qq r2
          have d2 : w2.cell? ⟨b2, o2 + q, none⟩ = some (.int .i64 p.n) := by have h := g2 w2 (Below.refl _ _) 0 _ rfl; simpa only [Nat.mul_one, Nat.add_zero] using h
          clear g2 hlq
          by_cases hx : p.n = a
          · have HP := Lib.hid (HYES.out (HYB.out hx))
            have n1 : (p.n == a) = true := beq_t hx
            clear hx
            go_wp2
            exact HF.out (some k) _ _ HP.out ⟨rfl, rfl⟩
          · have HN4 := Lib.hid (HN3.out hx)
            have n1 : (p.n == a) = false := beq_f hx
            clear hx
            go_wp2
            go_roundg (g.length - (q + 1))
            case measure => have := HM2.out; have := HLQ.out; omega
            case rel => exact ⟨q + 1, by have := HLQ.out; omega, by go_num, rfl, HN4.out⟩
        · have hqi : ¬ (q : Int) < g.length := by omega
          have HN3 := Lib.hid (HN2.out (hasB_no fun z hz => HNO2.out z hz (by omega)))
          clear hlq
          go_wp2
          go_roundg (gs.length - (k + 1))
          case measure => have := HM.out; have := HLT.out; omega
          case rel => exact ⟨k + 1, by have := HLT.out; omega, by go_num, rfl, HN3.out⟩
    · have hki : ¬ (k : Int) < gs.length := by omega
      have HP := Lib.hid (group_no (gs := gs) (a := a) fun j hj => HNO.out j hj (by omega))
      clear hlt
      go_wp2
      exact HF.out none _ _ HP.out ⟨rfl, rfl⟩
def RConnMade (r : Bool) (w : World) (e : Ending) (w' : World) : Prop := e = .returned (.bool r) ∧ w' = w
theorem rconnected_any (a c : Int) (h : RefAt B R u nv mv gv r w) : Calls Try.prog 54 #[.pointer (some ⟨u, 0, none⟩), .int .i64 a, .int .i64 c] w (RConnMade (rconnB r.split r.gs a c) w) := by
  have HF : Hid (∀ r e w', e = .returned (.bool r) → w' = w → RConnMade r w e w') := Lib.hid fun r e w' h1 h2 => ⟨h1, h2⟩
  have d4 : w.cell? ⟨u, 4, none⟩ = some (.bool r.split) := h.box.cell 4
  have HGA := Lib.hid (rgroup_any a h)
  have HGC := Lib.hid (rgroup_any c h)
  clear h
  have HPA := Lib.hid (rprocess_any a w)
  have HPC := Lib.hid (rprocess_any c w)
  generalize hR : rconnB r.split r.gs a c = rr
  have HR : Hid (rconnB r.split r.gs a c = rr) := Lib.hid hR
  clear hR
  generalize r.split = sp at *
  generalize r.gs = gs at *
  unfold rconnB at HR
  cases hpa : procB a with
  | false =>
    obtain rfl : false = rr := by rw [← HR.out, hpa]; rfl
    rw [hpa] at HPA
    clear hpa HGA HGC d4 HR
    have HF2 := Lib.hid (HF.out false)
    generalize hQ : RConnMade false w = Q at *
    clear HF hQ
    go_enter Try.func54, Try.ntmps54
    go_wp2_with fail
    refine HPA.out.mono ?_
    rintro e w' ⟨rfl, rfl⟩
    go_wp2_with fail
    exact HF2.out _ _ rfl rfl
  | true =>
  rw [hpa] at HPA
  cases hpc : procB c with
  | false =>
    obtain rfl : false = rr := by rw [← HR.out, hpa, hpc]; rfl
    rw [hpc] at HPC
    clear hpa hpc HGA HGC d4 HR
    have HF2 := Lib.hid (HF.out false)
    generalize hQ : RConnMade false w = Q at *
    clear HF hQ
    go_enter Try.func54, Try.ntmps54
    go_wp2_with fail
    refine HPA.out.mono ?_
    rintro e w' ⟨rfl, rfl⟩
    go_wp2_with fail
    refine HPC.out.mono ?_
    rintro e w' ⟨rfl, rfl⟩
    go_wp2_with fail
    exact HF2.out _ _ rfl rfl
  | true =>
  rw [hpc] at HPC
  rw [hpa, hpc] at HR
  clear hpa hpc
  cases sp with
  | false =>
    obtain rfl : true = rr := by rw [← HR.out]; rfl
    clear HGA HGC HR
    have HF2 := Lib.hid (HF.out true)
    generalize hQ : RConnMade true w = Q at *
    clear HF hQ
    go_enter Try.func54, Try.ntmps54
    go_wp2_with fail
    refine HPA.out.mono ?_
    rintro e w' ⟨rfl, rfl⟩
    go_wp2_with fail
    refine HPC.out.mono ?_
    rintro e w' ⟨rfl, rfl⟩
    go_wp2_with fail
    exact HF2.out _ _ rfl rfl
  | true =>
  by_cases hac : a = c
  · have n1 : (a == c) = true := beq_t hac
    obtain rfl : true = rr := by rw [← HR.out, n1]; rfl
    clear HGA HGC HR hac
    have HF2 := Lib.hid (HF.out true)
    generalize hQ : RConnMade true w = Q at *
    clear HF hQ
    go_enter Try.func54, Try.ntmps54
    go_wp2_with fail
    refine HPA.out.mono ?_
    rintro e w' ⟨rfl, rfl⟩
    go_wp2_with fail
    refine HPC.out.mono ?_
    rintro e w' ⟨rfl, rfl⟩
    go_wp2_with fail
    exact HF2.out _ _ rfl rfl
  have n1 : (a == c) = false := beq_f hac
  rw [n1] at HR
  clear hac
  generalize optI (grpN gs a) = ga at *
  generalize optI (grpN gs c) = gc at *
  by_cases h0 : 0 ≤ ga
  · have n2 : decide (0 ≤ ga) = true := decide_eq_true h0
    rw [n2] at HR
    clear h0
    obtain rfl : (ga == gc) = rr := by rw [← HR.out]; rfl
    clear HR
    have HF2 := Lib.hid (HF.out (ga == gc))
    generalize hQ : RConnMade (ga == gc) w = Q at *
    clear HF hQ
    go_enter Try.func54, Try.ntmps54
    go_wp2_with fail
    refine HPA.out.mono ?_
    rintro e w' ⟨rfl, rfl⟩
    go_wp2_with fail
    refine HPC.out.mono ?_
    rintro e w' ⟨rfl, rfl⟩
    go_wp2_with fail
    refine HGA.out.mono ?_
    rintro e w' ⟨rfl, rfl⟩
    go_wp2_with fail
    refine HGA.out.mono ?_
    rintro e w' ⟨rfl, rfl⟩
    go_wp2_with fail
    refine HGC.out.mono ?_
    rintro e w' ⟨rfl, rfl⟩
    go_wp2_with fail
    exact HF2.out _ _ rfl rfl
  · have n2 : decide (0 ≤ ga) = false := decide_eq_false h0
    rw [n2] at HR
    clear h0
    obtain rfl : false = rr := by rw [← HR.out]; rfl
    clear HR HGC
    have HF2 := Lib.hid (HF.out false)
    generalize hQ : RConnMade false w = Q at *
    clear HF hQ
    go_enter Try.func54, Try.ntmps54
    go_wp2_with fail
    refine HPA.out.mono ?_
    rintro e w' ⟨rfl, rfl⟩
    go_wp2_with fail
    refine HPC.out.mono ?_
    rintro e w' ⟨rfl, rfl⟩
    go_wp2_with fail
    refine HGA.out.mono ?_
    rintro e w' ⟨rfl, rfl⟩
    go_wp2_with fail
    exact HF2.out _ _ rfl rfl
end
end Go.Proofs.Ytmcdmcnbnnfhnaa
