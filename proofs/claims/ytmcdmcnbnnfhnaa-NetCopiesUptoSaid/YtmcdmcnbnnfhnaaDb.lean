/-
  Chapter 28: values with slices in slices, read as plain trees.
-/
import Derived.Test.YtmcdmcnbnnfhnaaDa
namespace Go.Proofs.Ytmcdmcnbnnfhnaa
open Go.RowKit

/-- A cell's datum: a plain value, or a list of elements of several cells each. -/
inductive DV where
  | val (v : Value)
  | ls (K : Nat) (xs : List (List DV))

/-- The value v reads in w as the datum; the memory behind it lies in blocks of P. -/
inductive ReadsD (P : Nat → Prop) (w : World) : Value → DV → Prop
  | val (v : Value) (h1 : v.oneCell' = true) : ReadsD P w v (.val v)
  | nil (K : Nat) (ao : Option Addr) (cap : Nat) (hm : cap ≤ maxLen) (h0 : ao = none → cap = 0) : ReadsD P w (.slice ao 0 cap) (.ls K [])
  | ls {K : Nat} {xs : List (List DV)} {b off cap : Nat} (us : Nat → Nat → Value) (h0 : xs ≠ []) (hL : xs.length ≤ 1048576) (hc : xs.length ≤ cap) (hm : cap ≤ maxLen) (hP : P b) (hb : b < w.heap.size) (hF : ∀ q, q < xs.length * K → w.frozen? ⟨b, off + q, none⟩ = false) (hK : ∀ j (h : j < xs.length), xs[j].length = K)
      (ha : ∀ j, j < xs.length → ∀ i, i < K → w.cell? ⟨b, off + j * K + i, none⟩ = some (us j i)) (hr : ∀ j (hj : j < xs.length) i (hi : i < xs[j].length), ReadsD P w (us j i) xs[j][i]) : ReadsD P w (.slice (some ⟨b, off, none⟩) xs.length cap) (.ls K xs)

section
variable {P P' : Nat → Prop} {w w' : World} {v : Value} {d : DV} {K : Nat} {xs : List (List DV)}
theorem ReadsD.keep (h : ReadsD P w v d) (hs : w.heap.size ≤ w'.heap.size) (hk : ∀ b, P b → b < w.heap.size → w'.heap[b]? = w.heap[b]?) : ReadsD P w' v d := by
  induction h with
  | val v h1 => exact .val v h1
  | nil K ao cap hm h0 => exact .nil K ao cap hm h0
  | ls us h0 hL hc hm hP hb hF hK ha _ ih => exact .ls us h0 hL hc hm hP (Nat.lt_of_lt_of_le hb hs) (fun q hq => (World.frozen?_of_block (w := w) (a := ⟨_, _, none⟩) (hk _ hP hb)).trans (hF q hq)) hK (fun j hj i hi => (World.cell?_of_block (w := w) (a := ⟨_, _, none⟩) (hk _ hP hb)).trans (ha j hj i hi)) fun j hj i hi => ih j hj i hi
theorem ReadsD.on (h : ReadsD P w v d) (hb : Below w.heap.size w w') : ReadsD P w' v d := h.keep hb.size fun b _ hlt => hb.block b hlt
theorem ReadsD.kept {S : Nat → Prop} (h : ReadsD P w v d) (hk : Kept S w w') (hs : ∀ b, P b → ¬ S b) : ReadsD P w' v d := h.keep hk.size fun b hP hlt => hk.block b hlt (hs b hP)
theorem ReadsD.mono (h : ReadsD P w v d) (hp : ∀ b, P b → b < w.heap.size → P' b) : ReadsD P' w v d := by
  induction h with
  | val v h1 => exact .val v h1
  | nil K ao cap hm h0 => exact .nil K ao cap hm h0
  | ls us h0 hL hc hm hP hb hF hK ha _ ih => exact .ls us h0 hL hc hm (hp _ hP hb) hb hF hK ha fun j hj i hi => ih j hj i hi
theorem ReadsD.lt (h : ReadsD P w v d) : ReadsD (fun b => P b ∧ b < w.heap.size) w v d := h.mono fun _ a b => ⟨a, b⟩
theorem ReadsD.atv {u : Value} (h : ReadsD P w v (.val u)) : v = u := by cases h; rfl
theorem ReadsD.slc (h : ReadsD P w v (.ls K xs)) : ∃ ao cap, v = .slice ao xs.length cap ∧ xs.length ≤ cap ∧ cap ≤ maxLen ∧ (ao = none → cap = 0) ∧ xs.length ≤ 1048576 := by
  cases h with
  | nil K ao cap hm h0 => exact ⟨ao, cap, rfl, Nat.zero_le _, hm, h0, Nat.zero_le _⟩
  | ls us h0 hL hc hm hP hb hF hK ha hr => exact ⟨_, _, rfl, hc, hm, (fun e => by cases e), hL⟩
theorem ReadsD.elem (h : ReadsD P w v (.ls K xs)) {j : Nat} (hj : j < xs.length) : ∃ (b off cap : Nat) (us : Nat → Value), v = .slice (some ⟨b, off, none⟩) xs.length cap ∧ P b ∧ b < w.heap.size ∧ xs[j].length = K ∧ (∀ i, i < K → w.cell? ⟨b, off + j * K + i, none⟩ = some (us i)) ∧ ∀ i (hi : i < xs[j].length), ReadsD P w (us i) xs[j][i] := by
  cases h with
  | nil K ao cap hm h0 => simp at hj
  | ls us h0 hL hc hm hP hb hF hK ha hr => exact ⟨_, _, _, us j, rfl, hP, hb, hK j hj, ha j hj, hr j hj⟩
/-- Its cells in a row, one behind the other. -/
theorem ReadsD.cells {ad : Addr} {n c : Nat} (h : ReadsD P w (.slice (some ad) n c) (.ls K xs)) : n = xs.length ∧ ∃ us : Nat → Nat → Value, (∀ j (hj : j < xs.length) i (hi : i < xs[j].length), ReadsD P w (us j i) xs[j][i]) ∧ (∀ j (hj : j < xs.length), xs[j].length = K) ∧
    ∀ q u, ((List.range (xs.length * K)).map fun q => us (q / K) (q % K))[q]? = some u → w.cell? (ad.add q) = some u := by
  generalize hv : Value.slice (some ad) n c = v at h
  cases h with
  | nil K ao cap hm h0 =>
    injection hv with _ e _
    exact ⟨e, fun _ _ => undef, (fun j hj => by simp at hj), (fun j hj => by simp at hj), fun q u hu => by simp at hu⟩
  | @ls K xs b off cap us h0 hL hc hm hP hb hF hK ha hr =>
    injection hv with e1 e2 e3
    injection e1 with e1
    subst e1
    refine ⟨e2, us, hr, hK, fun q u hu => ?_⟩
    rw [List.getElem?_map] at hu
    by_cases hq : q < xs.length * K
    · rw [List.getElem?_range hq] at hu
      simp only [Option.map_some] at hu
      rw [← hu]
      have hK0 : 0 < K := by
        rcases Nat.eq_zero_or_pos K with e | e
        · subst e; simp at hq
        · exact e
      have h1 := ha (q / K) ((Nat.div_lt_iff_lt_mul hK0).2 hq) (q % K) (Nat.mod_lt _ hK0)
      have h2 : off + q / K * K + q % K = off + q := by rw [Nat.add_assoc, Nat.div_add_mod' q K]
      rw [h2] at h1
      rw [← h1]
      congr 1
      by_cases e : q = 0 <;> simp [Addr.add, e]
    · rw [List.getElem?_eq_none (by simpa using hq)] at hu
      cases hu
theorem ReadsD.one (h : ReadsD P w v d) : v.oneCell' = true := by
  cases h with
  | val v h1 => exact h1
  | nil => rfl
  | ls => rfl
end

/-- A row of the call's own, cell by cell: cell i of element j reads as it should, its memory in blocks of Q j i. -/
def RowD (w : World) (g cap : Nat) (T : TypeId) (K : Nat) (Q : Nat → Nat → Nat → Prop) (ds : List (List DV)) : Prop :=
  ∃ cur : Array Value, Blk w g T cur ∧ (ds.length ≤ cap ∧ ds.length ≤ 1048576) ∧ cap ≤ maxLen ∧ cur.size = cap * K ∧ ∀ j (hj : j < ds.length), ds[j].length = K ∧ ∀ i (hi : i < ds[j].length), ∃ u, cur[j * K + i]? = some u ∧ ReadsD (Q j i) w u ds[j][i]
section
variable {w w' : World} {g cap K : Nat} {T : TypeId} {Q Q' : Nat → Nat → Nat → Prop} {ds : List (List DV)}
theorem RowD.on (h : RowD w g cap T K Q ds) (hb : Below w.heap.size w w') : RowD w' g cap T K Q ds := by
  obtain ⟨cur, h1, h2, h3, h4, h5⟩ := h
  exact ⟨cur, h1.on hb, h2, h3, h4, fun j hj => ⟨(h5 j hj).1, fun i hi => by obtain ⟨u, a, b⟩ := (h5 j hj).2 i hi; exact ⟨u, a, b.on hb⟩⟩⟩
theorem RowD.kept {S : Nat → Prop} (h : RowD w g cap T K Q ds) (hk : Kept S w w') (hg : ¬ S g) (hs : ∀ j i b, Q j i b → b < w.heap.size → ¬ S b) : RowD w' g cap T K Q ds := by
  obtain ⟨cur, h1, h2, h3, h4, h5⟩ := h
  exact ⟨cur, hk.blk h1 hg, h2, h3, h4, fun j hj => ⟨(h5 j hj).1, fun i hi => by obtain ⟨u, a, b⟩ := (h5 j hj).2 i hi; exact ⟨u, a, b.keep hk.size fun b hP hlt => hk.block b hlt (hs j i b hP hlt)⟩⟩⟩
theorem RowD.mono (h : RowD w g cap T K Q ds) (hq : ∀ j i b, Q j i b → b < w.heap.size → Q' j i b) : RowD w g cap T K Q' ds := by
  obtain ⟨cur, h1, h2, h3, h4, h5⟩ := h
  exact ⟨cur, h1, h2, h3, h4, fun j hj => ⟨(h5 j hj).1, fun i hi => by obtain ⟨u, a, b⟩ := (h5 j hj).2 i hi; exact ⟨u, a, b.mono (hq j i)⟩⟩⟩
theorem RowD.lt (h : RowD w g cap T K Q ds) : g < w.heap.size := by
  obtain ⟨cur, h1, _⟩ := h
  exact h1.lt
theorem RowD.bounds (h : RowD w g cap T K Q ds) : (ds.length ≤ cap ∧ ds.length ≤ 1048576) ∧ cap ≤ maxLen := by
  obtain ⟨cur, h1, h2, h3, _⟩ := h
  exact ⟨h2, h3⟩
/-- A cell of it, in this world and each that only grew. -/
theorem RowD.cell (h : RowD w g cap T K Q ds) {j i : Nat} (hj : j < ds.length) (hi : i < ds[j].length) : ∃ u, (∀ wq, Below w.heap.size w wq → wq.cell? ⟨g, j * K + i, none⟩ = some u) ∧ w.frozen? ⟨g, j * K + i, none⟩ = false ∧ ReadsD (Q j i) w u ds[j][i] := by
  obtain ⟨cur, h1, h2, h3, h4, h5⟩ := h
  obtain ⟨u, a, b⟩ := (h5 j hj).2 i hi
  exact ⟨u, fun wq hq => by rw [(h1.on hq).cell]; exact a, h1.frozen _, b⟩
/-- One cell replaced. -/
theorem RowD.put (h : RowD w g cap T K Q ds) {j0 i0 : Nat} {u : Value} {P : Nat → Prop} {d : DV} (hj : j0 < ds.length) (hi : i0 < ds[j0].length) (hd : d = ds[j0][i0]) (hu : ReadsD P w u d) (hP : ¬ P g) (hQ : ∀ j i, ¬ Q j i g) (hQ' : ∀ j i b, Q' j i b ↔ if j = j0 ∧ i = i0 then P b else Q j i b) :
    RowD (w.setCell ⟨g, j0 * K + i0, none⟩ u) g cap T K Q' ds := by
  subst hd
  obtain ⟨cur, h1, h2, h3, h4, h5⟩ := h
  have hkg : Kept (fun b => b = g) w (w.setCell ⟨g, j0 * K + i0, none⟩ u) := Kept.set _ rfl
  refine ⟨cur.setIfInBounds (j0 * K + i0) u, h1.set_ _ _, h2, h3, by simpa using h4, fun j hjj => ⟨(h5 j hjj).1, fun i hii => ?_⟩⟩
  have hKl := (h5 j hjj).1
  have hKl0 := (h5 j0 hj).1
  by_cases e : j = j0 ∧ i = i0
  · obtain ⟨rfl, rfl⟩ := e
    refine ⟨u, ?_, (hu.kept hkg fun b hb e => hP (e ▸ hb)).mono fun b hb _ => (hQ' j i b).2 (by rw [if_pos ⟨rfl, rfl⟩]; exact hb)⟩
    rw [Array.getElem?_setIfInBounds, if_pos rfl, if_pos ?_]
    have : j * K + K ≤ cap * K := by rw [← Nat.succ_mul]; exact Nat.mul_le_mul_right _ (by omega)
    omega
  · obtain ⟨z, a, b⟩ := (h5 j hjj).2 i hii
    refine ⟨z, ?_, (b.kept hkg fun b hb e => hQ j i (e ▸ hb)).mono fun b hb _ => (hQ' j i b).2 (by rw [if_neg e]; exact hb)⟩
    rw [Array.getElem?_setIfInBounds, if_neg ?_]
    · exact a
    · intro e2
      apply e
      have hi1 : i < K := by omega
      have hi2 : i0 < K := by omega
      have e3 : (j0 * K + i0) / K = j0 := by rw [Nat.mul_comm, Nat.mul_add_div (by omega), Nat.div_eq_of_lt hi2, Nat.add_zero]
      have e4 : (j * K + i) / K = j := by rw [Nat.mul_comm, Nat.mul_add_div (by omega), Nat.div_eq_of_lt hi1, Nat.add_zero]
      have e5 : j = j0 := by rw [← e4, ← e2, e3]
      subst e5
      exact ⟨rfl, by omega⟩
/-- Read as a whole. -/
theorem RowD.reads (h : RowD w g cap T K Q ds) {P : Nat → Prop} (hP : P g) (hQ : ∀ j i b, Q j i b → b < w.heap.size → P b) : ReadsD P w (.slice (some ⟨g, 0, none⟩) ds.length cap) (.ls K ds) := by
  obtain ⟨cur, h1, h2, h3, h4, h5⟩ := h
  by_cases h0 : ds = []
  · subst h0; exact .nil K _ cap h3 fun e => by cases e
  · have hcell : ∀ j (hj : j < ds.length) i (hi : i < ds[j].length), cur[j * K + i]? = some ((cur[j * K + i]?).getD undef) ∧ ReadsD P w ((cur[j * K + i]?).getD undef) ds[j][i] := fun j hj i hi => by
      obtain ⟨u, a, b⟩ := (h5 j hj).2 i hi
      rw [a]; exact ⟨rfl, b.mono (hQ j i)⟩
    refine .ls (fun j i => (cur[j * K + i]?).getD undef) h0 h2.2 h2.1 h3 hP h1.lt (fun _ _ => h1.frozen _) (fun j hj => (h5 j hj).1) (fun j hj i hi => ?_) fun j hj i hi => (hcell j hj i hi).2
    rw [Nat.zero_add, h1.cell]
    exact (hcell j hj i (by rw [(h5 j hj).1]; exact hi)).1
end
end Go.Proofs.Ytmcdmcnbnnfhnaa
