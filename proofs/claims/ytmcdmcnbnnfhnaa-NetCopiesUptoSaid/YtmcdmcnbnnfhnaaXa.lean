/-
  Chapter 28: lists of the call's own: the messages that were sent, and which of them are gone.
-/
import Derived.Test.YtmcdmcnbnnfhnaaWf
import Derived.Laws.AppendOwn
namespace Go.Proofs.Ytmcdmcnbnnfhnaa
open Go.RowKit

section
variable {w w' : World} {B B0 K n : Nat} {T : TypeId} {v : Value} {xs : List Value}
/-- A row of the call's own stays if its block does. -/
theorem ownK_keep (h : w.ownsRow B T K v n xs) (hk : ∀ g, v.ownBlock = some g → w'.heap[g]? = w.heap[g]?) : w'.ownsRow B T K v n xs := by
  refine ⟨h.1, h.2.imp id ?_⟩
  rintro ⟨g, cap, cur, rfl, h1, h2, h3, h4, h5, h6⟩
  exact ⟨g, cap, cur, rfl, h1, (hk g rfl).trans h2, h3, h4, h5, h6⟩
theorem ownK_new (hn : n ≤ maxLen) (hl : xs.length = n * K) (hB : B ≤ w.heap.size) : (w.alloc (.cells xs.toArray T)).ownsRow B T K (.slice (some ⟨w.heap.size, 0, none⟩) n n) n xs := by
  refine ⟨hl, .inr ⟨w.heap.size, n, xs.toArray, rfl, hB, Blk.new w T xs.toArray, Nat.le_refl _, hn, by rw [List.size_toArray, hl], ?_⟩⟩
  show xs.toArray.toList.take (n * K) = xs
  rw [List.take_of_length_le (by simp [hl])]
theorem ownK_at (h : w.ownsRow B T K v n xs) (h0 : 0 < n) : ∃ g cap, v = .slice (some ⟨g, 0, none⟩) n cap ∧ B ≤ g ∧ g < w.heap.size ∧ n ≤ cap ∧ cap ≤ maxLen ∧ ∀ q, q < n * K → w.cell? ⟨g, q, none⟩ = xs[q]? := by
  rcases h.2 with ⟨_, e⟩ | ⟨g, cap, cur, rfl, h1, h2, h3, h4, h5, h6⟩
  · omega
  · refine ⟨g, cap, rfl, h1, (Array.getElem?_eq_some_iff.1 h2).1, h3, h4, fun q hq => ?_⟩
    rw [cell_of_row w g _ cur _ (0, 0) h2, ← h6, List.getElem?_take, if_pos hq, Array.getElem?_toList]
theorem ownK_set (h : w.ownsRow B T K v n xs) {g q : Nat} (hv : v.ownBlock = some g) (u : Value) : (w.setCell ⟨g, q, none⟩ u).ownsRow B T K v n (xs.set q u) := by
  refine ⟨by rw [List.length_set]; exact h.1, ?_⟩
  rcases h.2 with ⟨rfl, _⟩ | ⟨g', cap, cur, rfl, h1, h2, h3, h4, h5, h6⟩
  · cases hv
  · injection hv with hv
    simp only at hv
    subst hv
    refine .inr ⟨g', cap, cur.setIfInBounds q u, rfl, h1, ?_, h3, h4, by simpa using h5, ?_⟩
    · have hb : Blk w g' T cur := h2
      exact hb.set_ q u
    · rw [Array.toList_setIfInBounds, List.take_set, h6]
end
/-- One append more: the row stays in its block, or moves to a new one. -/
theorem run_append_fresh {P : Program} {w : World} (base : Nat) (t ty e : TypeId) (i : TypeInfo) (z : Value) (size bytes : Nat) (ht : P.underlying t = some (.slice e)) (hi : P.info? e = some i) (hz : i.zero = some z)
    (hsize : i.size = size) (hby : i.bytes = bytes) (hzs : z.cells.size = size) (hsz : 0 < size) (v : Value) (n : Nat) (xs : List Value) (hown : w.ownsRow base e size v n xs)
    (a : Addr) (c : Nat) (news : List Value) (hl : news.length = 1 * size) (hnews : ∀ j u, news[j]? = some u → w.cell? (a.add j) = some u) (h1 : ∀ u ∈ news, u.oneCell' = true)
    (h63 : n + 1 ≤ maxLen) (hbytes : (n + 1) * bytes ≤ 140737488355328) (hbase : base ≤ w.heap.size) (h0 : 0 < n) :
    ∃ v' w', (Builtin.append_ #[t, t] ty #[v, .slice (some a) 1 c]).run P w = .ok v' w' ∧ w'.ownsRow base e size v' (n + 1) (xs ++ news) ∧ w.grownBy w' v.ownBlock ∧ (v'.ownBlock = v.ownBlock ∨ v'.ownBlock = some w.heap.size) := by
  obtain ⟨v', w', hr, h2, h3, -⟩ := run_append_own (P := P) w base t ty e i z size bytes ht hi hz hsize hby hzs hsz v n xs hown a 1 c news hl hnews h1 h63 hbytes hbase
  refine ⟨v', w', hr, h2, h3, ?_⟩
  rcases hown.2 with ⟨_, e0⟩ | ⟨g, cap, cur, rfl, hbg, hg, hnc, hcm, hcs, htake⟩
  · omega
  · by_cases hroom : n + 1 ≤ cap
    · have hfit : n * i.size + news.length ≤ cur.size := by rw [hl, hcs, hsize, ← Nat.add_mul]; exact Nat.mul_le_mul_right _ hroom
      have hr2 := run_append_room (P := P) w t ty e i ht hi g n cap cur hg a 1 c news (by rw [hl, hsize]) hnews h1 hroom hfit
      rw [hr] at hr2
      injection hr2 with e1 e2
      exact .inl (by rw [e1]; rfl)
    · have holds : ∀ j u, xs[j]? = some u → w.cell? ((⟨g, 0, none⟩ : Addr).add j) = some u := hown.cells (g := g) rfl
      have hsmall : n + 1 ≤ 9223372036854775807 := by simp only [maxLen] at h63; omega
      have hr2 := run_append_grow (P := P) w t ty e i z ht hi hz ⟨g, 0, none⟩ n cap xs (by rw [hsize]; exact hown.1) holds a 1 c news (by rw [hl, hsize]) hnews (by omega) (by omega) (growslice_fits (by omega) (by rw [hby]; exact hbytes))
      rw [hr] at hr2
      injection hr2 with e1 e2
      exact .inr (by rw [e1]; rfl)
theorem wp_append_fresh {P : Program} {w : World} {o : Oper} {a : Act} {K : Act → World → Prop} {Q : Exit → Act → World → Prop} (s x : Operand) (t : TypeId)
    (ho : o.op = .call { callee := .builtin .append, args := #[s, x], argTypes := #[t, t] })
    (base : Nat) (e : TypeId) (i : TypeInfo) (z : Value) (size bytes : Nat) (ht : P.underlying t = some (.slice e)) (hi : P.info? e = some i) (hz : i.zero = some z)
    (hsize : i.size = size) (hby : i.bytes = bytes) (hzs : z.cells.size = size) (hsz : 0 < size) (v : Value) (n : Nat) (xs : List Value) (hs : a.eval s = v) (hown : w.ownsRow base e size v n xs)
    (ad : Addr) (c : Nat) (news : List Value) (hx : a.eval x = .slice (some ad) 1 c) (hl : news.length = 1 * size) (hnews : ∀ j u, news[j]? = some u → w.cell? (ad.add j) = some u) (h1 : ∀ u ∈ news, u.oneCell' = true)
    (h63 : n + 1 ≤ maxLen) (hbytes : (n + 1) * bytes ≤ 140737488355328) (hbase : base ≤ w.heap.size) (h0 : 0 < n)
    (h : ∀ v' w', w'.ownsRow base e size v' (n + 1) (xs ++ news) → w.grownBy w' v.ownBlock → (v'.ownBlock = v.ownBlock ∨ v'.ownBlock = some w.heap.size) → K (a.put o.dst v') w') : o.wp P a w K Q := by
  obtain ⟨v', w', hr, h2, h3, h4⟩ := run_append_fresh (P := P) (w := w) base t o.type e i z size bytes ht hi hz hsize hby hzs hsz v n xs hown ad c news hl hnews h1 h63 hbytes hbase h0
  unfold Oper.wp execOp
  simp only [ho, resolve, invoke, builtin, Sem.run_bind, Sem.run_pure, Result.andThen_ok, List.map_toArray, List.map_cons, List.map_nil, hs, hx, hr]
  exact h v' w' h2 h3 h4
theorem wpList_append_fresh {P : Program} {w : World} {ops : Array Oper} {rest : List Oper} {o : Oper} {a : Act} {Q : Exit → Act → World → Prop} (hgd : o.guard = none) (s x : Operand) (t : TypeId)
    (ho : o.op = .call { callee := .builtin .append, args := #[s, x], argTypes := #[t, t] })
    (base : Nat) (e : TypeId) (i : TypeInfo) (z : Value) (size bytes : Nat) (ht : P.underlying t = some (.slice e)) (hi : P.info? e = some i) (hz : i.zero = some z)
    (hsize : i.size = size) (hby : i.bytes = bytes) (hzs : z.cells.size = size) (hsz : 0 < size) (v : Value) (n : Nat) (xs : List Value) (hs : a.eval s = v) (hown : w.ownsRow base e size v n xs)
    (ad : Addr) (c : Nat) (news : List Value) (hx : a.eval x = .slice (some ad) 1 c) (hl : news.length = 1 * size) (hnews : ∀ j u, news[j]? = some u → w.cell? (ad.add j) = some u) (h1 : ∀ u ∈ news, u.oneCell' = true)
    (h63 : n + 1 ≤ maxLen) (hbytes : (n + 1) * bytes ≤ 140737488355328) (hbase : base ≤ w.heap.size) (h0 : 0 < n)
    (h : ∀ v' w', w'.ownsRow base e size v' (n + 1) (xs ++ news) → w.grownBy w' v.ownBlock → (v'.ownBlock = v.ownBlock ∨ v'.ownBlock = some w.heap.size) → wpList P ops Q rest (a.put o.dst v') w') : wpList P ops Q (o :: rest) a w :=
  wpList_plain hgd fun _ hK => wp_append_fresh s x t ho base e i z size bytes ht hi hz hsize hby hzs hsz v n xs hs hown ad c news hx hl hnews h1 h63 hbytes hbase h0 fun v' w' h2 h3 h4 => hK _ _ (h v' w' h2 h3 h4)
section
variable {w w' : World} {B B0 K n : Nat} {T : TypeId} {v : Value} {xs : List Value}
/-- The messages that were sent, as they came in. -/
def KeptL (B0 B : Nat) (w : World) (v : Value) (L : List MsgM) : Prop := ∃ cells, w.ownsRow B 39 15 v L.length cells ∧ ∀ k (h : k < L.length), ∃ cs : List Value, (∀ i, i < 15 → cells[k * 15 + i]? = cs[i]?) ∧ CellsD (fun b => b < B0) w cs (msgD L[k])
/-- Which of them are gone. -/
def GoneL (B : Nat) (w : World) (v : Value) (G : List Bool) : Prop := w.ownsRow B 4 1 v G.length (G.map Value.bool)
theorem cells_keep {cs : List Value} {ds : List DV} (h : CellsD (fun b => b < B0) w cs ds) (hs : w.heap.size ≤ w'.heap.size) (hb : ∀ b, b < B0 → b < w.heap.size → w'.heap[b]? = w.heap[b]?) : CellsD (fun b => b < B0) w' cs ds := ⟨h.1, fun i u d h1 h2 => (h.2 i u d h1 h2).keep hs hb⟩
variable {L : List MsgM} {G : List Bool}
theorem KeptL.keep (h : KeptL B0 B w v L) (hs : w.heap.size ≤ w'.heap.size) (hb : ∀ b, b < B0 → w'.heap[b]? = w.heap[b]?) (hk : ∀ g, v.ownBlock = some g → w'.heap[g]? = w.heap[g]?) : KeptL B0 B w' v L := by
  obtain ⟨cells, h1, h2⟩ := h
  refine ⟨cells, ownK_keep h1 hk, fun k hl => ?_⟩
  obtain ⟨cs, h3, h4⟩ := h2 k hl
  exact ⟨cs, h3, cells_keep h4 hs fun b hlt _ => hb b hlt⟩
theorem GoneL.keep (h : GoneL B w v G) (hk : ∀ g, v.ownBlock = some g → w'.heap[g]? = w.heap[g]?) : GoneL B w' v G := ownK_keep h hk
theorem KeptL.own (h : KeptL B0 B w v L) {g : Nat} (hv : v.ownBlock = some g) : B ≤ g ∧ g < w.heap.size := by
  obtain ⟨cells, h1, _⟩ := h
  exact h1.lt g hv
theorem GoneL.own (h : GoneL B w v G) {g : Nat} (hv : v.ownBlock = some g) : B ≤ g ∧ g < w.heap.size := by
  exact World.ownsRow.lt h g hv
theorem KeptL.on (h : KeptL B0 B w v L) (hB : B0 ≤ w.heap.size) (hb : Below w.heap.size w w') : KeptL B0 B w' v L :=
  h.keep hb.size (fun b hlt => hb.block b (by omega)) fun _ hg => hb.block _ (h.own hg).2
theorem GoneL.on (h : GoneL B w v G) (hb : Below w.heap.size w w') : GoneL B w' v G := h.keep fun _ hg => hb.block _ (h.own hg).2
/-- A message of the list. -/
theorem KeptL.item (h : KeptL B0 B w v L) {k : Nat} (hk : k < L.length) : ∃ g cap cs, v = .slice (some ⟨g, 0, none⟩) L.length cap ∧ B ≤ g ∧ w.rangeAt g (k * 15) cs ∧ CellsD (fun b => b < B0) w cs (msgD L[k]) := by
  obtain ⟨cells, h1, h2⟩ := h
  obtain ⟨g, cap, rfl, h3, -, -, -, h4⟩ := ownK_at h1 (by omega)
  obtain ⟨cs, h5, h6⟩ := h2 k hk
  refine ⟨g, cap, cs, rfl, h3, fun q u hu => ?_, h6⟩
  have hq : q < 15 := by have := (List.getElem?_eq_some_iff.1 hu).1; have := msg_len h6; omega
  rw [h4 _ (by omega), h5 q hq]
  exact hu
theorem GoneL.item (h : GoneL B w v G) {k : Nat} (hk : k < G.length) : ∃ g cap, v = .slice (some ⟨g, 0, none⟩) G.length cap ∧ B ≤ g ∧ w.cell? ⟨g, k, none⟩ = some (.bool G[k]) := by
  obtain ⟨g, cap, rfl, h3, -, -, -, h4⟩ := ownK_at h (by omega)
  refine ⟨g, cap, rfl, h3, ?_⟩
  rw [h4 k (by omega), List.getElem?_map, List.getElem?_eq_getElem hk]
  rfl
theorem GoneL.cellq {g n c : Nat} (h : GoneL B w (.slice (some ⟨g, 0, none⟩) n c) G) {k : Nat} (hk : k < G.length) : w.cell? ⟨g, k, none⟩ = some (.bool G[k]) ∧ g < w.heap.size := by
  obtain ⟨g', c', e, -, h1⟩ := h.item hk
  injection e with e1 _ _
  injection e1 with e1
  injection e1 with e1 _ _
  subst e1
  exact ⟨h1, (h.own rfl).2⟩
theorem GoneL.free (h : GoneL B w v G) {g : Nat} (hv : v.ownBlock = some g) : (∀ k, w.frozen? ⟨g, k, none⟩ = false) ∧ g < w.heap.size := by
  rcases h.2 with ⟨rfl, -⟩ | ⟨g', cap, cur, rfl, -, h2, -⟩
  · cases hv
  · injection hv with hv
    simp only at hv
    subst hv
    have hb : Blk w g' 4 cur := h2
    exact ⟨fun k => hb.frozen k, hb.lt⟩
theorem GoneL.free1 (h : GoneL B w v G) {g : Nat} (hv : v.ownBlock = some g) (k : Nat) : w.frozen? ⟨g, k, none⟩ = false := (h.free hv).1 k
theorem GoneL.set (h : GoneL B w v G) {g k : Nat} (hv : v.ownBlock = some g) (b : Bool) : GoneL B (w.setCell ⟨g, k, none⟩ (.bool b)) v (G.set k b) := by
  have h1 := ownK_set (q := k) h hv (.bool b)
  unfold GoneL
  rw [List.length_set, List.map_set]
  exact h1
end
theorem Try.infoMsg : (Try.prog.info? 39).map (fun i => (i.zero, i.size, i.bytes)) = some (some (.agg zeroC.toArray), 15, 248) := by kernel_rfl
/-- One more message. -/
theorem KeptL.app {B0 B : Nat} {w w' : World} {v v' : Value} {L : List MsgM} {cells cs : List Value} {m : MsgM} (hrow : w.ownsRow B 39 15 v L.length cells) (hc : ∀ k (h : k < L.length), ∃ cs : List Value, (∀ i, i < 15 → cells[k * 15 + i]? = cs[i]?) ∧ CellsD (fun b => b < B0) w cs (msgD L[k]))
    (hm : CellsD (fun b => b < B0) w cs (msgD m)) (hB : B0 ≤ B) (h1 : w'.ownsRow B 39 15 v' (L.length + 1) (cells ++ cs)) (h2 : w.grownBy w' v.ownBlock) : KeptL B0 B w' v' (L ++ [m]) := by
  have hkp : ∀ b, b < B0 → b < w.heap.size → w'.heap[b]? = w.heap[b]? := fun b hb hlt => h2.block b hlt fun e => by have := (hrow.lt b e.symm).1; omega
  refine ⟨cells ++ cs, by rw [List.length_append]; exact h1, fun k hk => ?_⟩
  have hcl : cells.length = L.length * 15 := hrow.1
  by_cases hlt : k < L.length
  · obtain ⟨ds, h5, h6⟩ := hc k hlt
    refine ⟨ds, fun i hi => ?_, by rw [List.getElem_append_left hlt]; exact cells_keep h6 h2.size hkp⟩
    rw [List.getElem?_append_left (by omega)]
    exact h5 i hi
  · have hk' : k = L.length := by simp at hk; omega
    subst hk'
    refine ⟨cs, fun i hi => ?_, by rw [List.getElem_append_right (Nat.le_refl _)]; simpa using cells_keep hm h2.size hkp⟩
    rw [List.getElem?_append_right (by omega), hcl, show L.length * 15 + i - L.length * 15 = i by omega]
theorem GoneL.app {B : Nat} {w' : World} {v' : Value} {G : List Bool} {b : Bool} (h1 : w'.ownsRow B 4 1 v' (G.length + 1) (G.map Value.bool ++ [.bool b])) : GoneL B w' v' (G ++ [b]) := by
  unfold GoneL
  rw [List.length_append, List.map_append]
  exact h1
/-- What is kept says what is under way. -/
structure InvK (s : NetS) (L : List MsgM) (G : List Bool) : Prop where
  len : (L.length : Int) = s.last + 1
  gl : G.length = L.length
  g0 : G[0]? = some true
  no : ∀ k : Nat, 1 ≤ k → G[k]? = some true → s.ms k = none
  yes : ∀ k : Nat, 1 ≤ k → G[k]? = some false → s.ms k = L[k]?
section
variable {l : Int} {s : NetS} {i : Nat} {L : List MsgM} {G : List Bool}
theorem InvK.new (l : Int) : InvK (newS l) [zeroM] [true] :=
  ⟨rfl, rfl, rfl, fun k h1 h2 => by rfl, fun k h1 h2 => by
    match k, h1 with
    | k + 1, _ => simp at h2⟩
theorem InvK.grp (h : InvK s L G) (g : Option (Int → Option Int)) : InvK { s with grp := g } L G := ⟨h.len, h.gl, h.g0, h.no, h.yes⟩
/-- A message under way was kept. -/
theorem InvK.of_some (h : InvK s L G) (hv : InvS l s i) {x : Int} {m : MsgM} (hm : s.ms x = some m) : ∃ k : Nat, x = k ∧ 1 ≤ k ∧ k < L.length ∧ G[k]? = some false ∧ L[k]? = some m := by
  have hk := hv.key x (by rw [hm]; rfl)
  have hl := h.len
  have hg := h.gl
  obtain ⟨k, rfl⟩ : ∃ k : Nat, x = k := ⟨x.toNat, by omega⟩
  have h1 : 1 ≤ k := by omega
  have h2 : k < L.length := by omega
  have h3 : k < G.length := by omega
  have hG : G[k]? = some G[k] := List.getElem?_eq_getElem h3
  cases hb : G[k] with
  | true => rw [hb] at hG; have := h.no k h1 hG; rw [this] at hm; cases hm
  | false => rw [hb] at hG; exact ⟨k, rfl, h1, h2, hG, by rw [← h.yes k h1 hG]; exact hm⟩
theorem InvK.put (h : InvK s L G) {s' : NetS} {m : MsgM} (h0 : 0 ≤ s.last) (e1 : s'.last = s.last + 1) (e2 : s'.ms = updM s.ms (s.last + 1) (some m)) : InvK s' (L ++ [m]) (G ++ [false]) := by
  have hl := h.len
  have hg := h.gl
  have h0' : 0 < G.length := by omega
  refine ⟨by rw [List.length_append, e1]; simp; omega, by simp [hg], by rw [List.getElem?_append_left h0']; exact h.g0, fun k h1 h2 => ?_, fun k h1 h2 => ?_⟩
  · have hk : k < G.length := by
      have := (List.getElem?_eq_some_iff.1 h2).1
      simp at this
      by_cases e : k = G.length
      · subst e; simp at h2
      · omega
    rw [List.getElem?_append_left hk] at h2
    rw [e2, updM_ne _ _ (by omega)]
    exact h.no k h1 h2
  · by_cases e : k = G.length
    · rw [e2, show (k : Int) = s.last + 1 by omega, updM_self, List.getElem?_append_right (by omega), show k - L.length = 0 by omega]
      rfl
    · have hk : k < G.length := by
        have := (List.getElem?_eq_some_iff.1 h2).1
        simp at this
        omega
      rw [List.getElem?_append_left hk] at h2
      rw [e2, updM_ne _ _ (by omega), List.getElem?_append_left (by omega)]
      exact h.yes k h1 h2
theorem InvK.del (h : InvK s L G) {s' : NetS} {k : Nat} (h1 : 1 ≤ k) (hk : k < G.length) (e1 : s'.last = s.last) (e2 : s'.ms = updM s.ms k none) : InvK s' L (G.set k true) := by
  refine ⟨by rw [e1]; exact h.len, by rw [List.length_set]; exact h.gl, by rw [List.getElem?_set_ne (by omega)]; exact h.g0, fun j h2 h3 => ?_, fun j h2 h3 => ?_⟩
  · by_cases e : j = k
    · subst e; rw [e2, updM_self]
    · rw [List.getElem?_set_ne (by omega)] at h3
      rw [e2, updM_ne _ _ (by omega)]
      exact h.no j h2 h3
  · by_cases e : j = k
    · subst e; rw [List.getElem?_set_self hk] at h3; cases h3
    · rw [List.getElem?_set_ne (by omega)] at h3
      rw [e2, updM_ne _ _ (by omega)]
      exact h.yes j h2 h3
end
theorem send_case (s : NetS) (m : MsgM) : (∃ a e, sendR s m = (a, e, s) ∧ e ≠ 0) ∨ ∃ s', sendR s m = (s.last + 1, 0, s') ∧ s'.last = s.last + 1 ∧ s'.ms = updM s.ms (s.last + 1) (some m) := by
  unfold sendR
  split
  · split
    · exact .inl ⟨_, _, rfl, by decide⟩
    · exact .inr ⟨_, rfl, rfl, rfl⟩
  · exact .inl ⟨_, _, rfl, by decide⟩
theorem dup_case (s : NetS) (x : Int) : (∃ a e, dupR s x = (a, e, s) ∧ e ≠ 0) ∨ ∃ m s', s.ms x = some m ∧ dupR s x = (s.last + 1, 0, s') ∧ s'.last = s.last + 1 ∧ s'.ms = updM s.ms (s.last + 1) (some m) := by
  unfold dupR
  cases hm : s.ms x with
  | none => exact .inl ⟨_, _, rfl, by decide⟩
  | some m =>
    simp only
    split
    · exact .inl ⟨_, _, rfl, by decide⟩
    · exact .inr ⟨m, _, rfl, rfl, rfl, rfl⟩
theorem del_case (s : NetS) (x : Int) : (∃ m e, delR s x = (m, e, s) ∧ e ≠ 0) ∨ ∃ m s', s.ms x = some m ∧ delR s x = (m, 0, s') ∧ s'.last = s.last ∧ s'.ms = updM s.ms x none := by
  unfold delR
  cases hm : s.ms x with
  | none => exact .inl ⟨_, _, rfl, by decide⟩
  | some m =>
    simp only
    split
    · exact .inr ⟨m, _, rfl, rfl, rfl, rfl⟩
    · exact .inl ⟨_, _, rfl, by decide⟩
theorem drop_case (s : NetS) (x : Int) : (∃ e, dropR s x = (e, s) ∧ e ≠ 0) ∨ ∃ m s', s.ms x = some m ∧ dropR s x = (0, s') ∧ s'.last = s.last ∧ s'.ms = updM s.ms x none := by
  unfold dropR
  cases hm : s.ms x with
  | none => exact .inl ⟨_, rfl, by decide⟩
  | some m => exact .inr ⟨m, _, rfl, rfl, rfl, rfl⟩
/-- The network beside the two lists. -/
structure CW (W w : World) (n b : Nat) (gn kv gv : Value) (s : NetS) (L : List MsgM) (G : List Bool) : Prop where
  net : NetAt (fun k => W.heap.size ≤ k ∧ kv.ownBlock ≠ some k ∧ gv.ownBlock ≠ some k) n b gn s w
  kl : KeptL W.heap.size W.heap.size w kv L
  gl : GoneL W.heap.size w gv G
  ne : ∀ k, kv.ownBlock = some k → gv.ownBlock ≠ some k
  bel : Below W.heap.size W w
section
variable {W w w' : World} {n b : Nat} {gn gn' kv kv' gv gv' : Value} {s s' : NetS} {L L' : List MsgM} {G G' : List Bool}
theorem CW.on (h : CW W w n b gn kv gv s L G) (hb : Below w.heap.size w w') : CW W w' n b gn kv gv s L G := ⟨h.net.on hb, h.kl.on h.bel.size hb, h.gl.on hb, h.ne, h.bel.trans (hb.mono h.bel.size)⟩
theorem CW.new (h : CW W w n b gn kv gv s L G) (k : Nat) (hk : w.heap.size ≤ k) : W.heap.size ≤ k ∧ kv.ownBlock ≠ some k ∧ gv.ownBlock ≠ some k := by
  refine ⟨Nat.le_trans h.bel.size hk, fun e => ?_, fun e => ?_⟩
  · have := (h.kl.own e).2; omega
  · have := (h.gl.own e).2; omega
/-- A call of the network's. -/
theorem CW.call (h : CW W w n b gn kv gv s L G) (hn : NetAt (fun k => W.heap.size ≤ k ∧ kv.ownBlock ≠ some k ∧ gv.ownBlock ≠ some k) n b gn' s' w') {S : Nat → Prop} (hk : Kept S w w') (hS : ∀ k, S k → k = n ∨ k = b) : CW W w' n b gn' kv gv s' L G := by
  have hp : ∀ k, S k → W.heap.size ≤ k ∧ kv.ownBlock ≠ some k ∧ gv.ownBlock ≠ some k := fun k hs => by
    rcases hS k hs with rfl | rfl
    · exact h.net.pn
    · exact h.net.pb
  refine ⟨hn, h.kl.keep hk.size (fun k hlt => hk.block k (Nat.lt_of_lt_of_le hlt h.bel.size) fun hs => ?_) fun g hg => hk.block g (h.kl.own hg).2 fun hs => (hp g hs).2.1 hg, h.gl.keep fun g hg => hk.block g (h.gl.own hg).2 fun hs => (hp g hs).2.2 hg, h.ne, h.bel.trans (hk.below h.bel.size fun k hlt hs => ?_)⟩
  all_goals
    have := (hp k hs).1
    omega
/-- Calls and stores of the network's side. -/
theorem CW.call2 (h : CW W w n b gn kv gv s L G) (hn : NetAt (fun k => W.heap.size ≤ k ∧ kv.ownBlock ≠ some k ∧ gv.ownBlock ≠ some k) n b gn' s' w') {S : Nat → Prop} (hk : Kept S w w') (hp : ∀ k, S k → W.heap.size ≤ k ∧ kv.ownBlock ≠ some k ∧ gv.ownBlock ≠ some k) : CW W w' n b gn' kv gv s' L G := by
  refine ⟨hn, h.kl.keep hk.size (fun k hlt => hk.block k (Nat.lt_of_lt_of_le hlt h.bel.size) fun hs => ?_) fun g hg => hk.block g (h.kl.own hg).2 fun hs => (hp g hs).2.1 hg, h.gl.keep fun g hg => hk.block g (h.gl.own hg).2 fun hs => (hp g hs).2.2 hg, h.ne, h.bel.trans (hk.below h.bel.size fun k hlt hs => ?_)⟩
  all_goals
    have := (hp k hs).1
    omega
/-- One more message is kept. -/
theorem CW.appK (h : CW W w n b gn kv gv s L G) (hk : KeptL W.heap.size W.heap.size w' kv' L') (hg : w.grownBy w' kv.ownBlock) (hv : kv'.ownBlock = kv.ownBlock ∨ kv'.ownBlock = some w.heap.size) : CW W w' n b gn kv' gv s L' G := by
  have hkk : Kept (fun k => kv.ownBlock = some k) w w' := Kept.ofG hg fun k e => e.symm
  refine ⟨?_, hk, h.gl.keep fun g e => hkk.block g (h.gl.own e).2 fun e' => h.ne g e' e, fun k e e' => ?_, h.bel.trans (hkk.below h.bel.size fun k hlt e => ?_)⟩
  · refine (h.net.mono (P' := fun k => (W.heap.size ≤ k ∧ kv'.ownBlock ≠ some k ∧ gv.ownBlock ≠ some k) ∧ kv.ownBlock ≠ some k) fun k hp hlt => ⟨⟨hp.1, fun e => ?_, hp.2.2⟩, hp.2.1⟩).kept hkk (fun k hp e => hp.2 e) |>.mono fun k hp _ => hp.1
    rcases hv with e1 | e1
    · exact hp.2.1 (e1 ▸ e)
    · rw [e1] at e; injection e with e; omega
  · rcases hv with e1 | e1
    · exact h.ne k (e1 ▸ e) e'
    · rw [e1] at e
      injection e with e
      have := (h.gl.own e').2
      omega
  · have := (h.kl.own e).1
    omega
/-- One more mark. -/
theorem CW.appG (h : CW W w n b gn kv gv s L G) (hk : GoneL W.heap.size w' gv' G') (hg : w.grownBy w' gv.ownBlock) (hv : gv'.ownBlock = gv.ownBlock ∨ gv'.ownBlock = some w.heap.size) : CW W w' n b gn kv gv' s L G' := by
  have hkk : Kept (fun k => gv.ownBlock = some k) w w' := Kept.ofG hg fun k e => e.symm
  refine ⟨?_, h.kl.keep hg.size (fun k hlt => hkk.block k (Nat.lt_of_lt_of_le hlt h.bel.size) fun e => ?_) fun g e => hkk.block g (h.kl.own e).2 fun e' => h.ne g e e', hk, fun k e e' => ?_, h.bel.trans (hkk.below h.bel.size fun k hlt e => ?_)⟩
  · refine (h.net.mono (P' := fun k => (W.heap.size ≤ k ∧ kv.ownBlock ≠ some k ∧ gv'.ownBlock ≠ some k) ∧ gv.ownBlock ≠ some k) fun k hp hlt => ⟨⟨hp.1, hp.2.1, fun e => ?_⟩, hp.2.2⟩).kept hkk (fun k hp e => hp.2 e) |>.mono fun k hp _ => hp.1
    rcases hv with e1 | e1
    · exact hp.2.2 (e1 ▸ e)
    · rw [e1] at e; injection e with e; omega
  · have := (h.gl.own e).1
    omega
  · rcases hv with e1 | e1
    · exact h.ne k e (e1 ▸ e')
    · rw [e1] at e'
      injection e' with e'
      have := (h.kl.own e).2
      omega
  · have := (h.gl.own e).1
    omega
/-- A mark is set. -/
theorem CW.setG (h : CW W w n b gn kv gv s L G) {g k : Nat} (hv : gv.ownBlock = some g) (c : Bool) : CW W (w.setCell ⟨g, k, none⟩ (.bool c)) n b gn kv gv s L (G.set k c) := by
  have hkk : Kept (fun q => q = g) w (w.setCell ⟨g, k, none⟩ (.bool c)) := Kept.set _ rfl
  have hgo := (h.gl.own hv).1
  refine ⟨h.net.kept hkk fun q hp e => hp.2.2 (e ▸ hv), h.kl.keep hkk.size (fun q hlt => hkk.block q (Nat.lt_of_lt_of_le hlt h.bel.size) fun e => by omega) fun q e => hkk.block q (h.kl.own e).2 fun e' => h.ne q e (e' ▸ hv), h.gl.set hv c, h.ne, h.bel.trans (hkk.below h.bel.size fun q hlt e => by omega)⟩
end
/-- The numbers of those that are not gone, below n. -/
def underL (G : List Bool) (n : Nat) : List Int := ((List.range n).filter fun k => decide (1 ≤ k) && !(G[k]?.getD true)).map fun k => Int.ofNat k
theorem underL_succ (G : List Bool) {n : Nat} (h1 : 1 ≤ n) (hn : n < G.length) : underL G (n + 1) = if G[n] = true then underL G n else underL G n ++ [(n : Int)] := by
  unfold underL
  rw [List.range_succ, List.filter_append, List.map_append, List.filter_cons, List.filter_nil]
  have e : (decide (1 ≤ n) && !(G[n]?.getD true)) = !G[n] := by rw [List.getElem?_eq_getElem hn, decide_eq_true h1]; rfl
  rw [e]
  cases G[n] <;> simp
theorem underL_one (G : List Bool) : underL G 1 = [] := rfl
theorem underL_len (G : List Bool) (n : Nat) : (underL G n).length ≤ n := by
  unfold underL
  rw [List.length_map]
  exact Nat.le_trans (List.length_filter_le _ _) (by simp)
theorem under_keys {l : Int} {s : NetS} {i : Nat} {L : List MsgM} {G : List Bool} (hk : InvK s L G) (hv : InvS l s i) (hI : s.last ≤ 1000000000) : KeysOf s.ms (underL G G.length) := by
  have hl := hk.len
  have hg := hk.gl
  refine ⟨?_, fun x => ?_⟩
  · unfold underL
    rw [List.pairwise_map]
    refine List.Pairwise.imp (fun {a b} h => by show (a : Int) < (b : Int); omega) (List.Pairwise.filter _ List.pairwise_lt_range)
  · unfold underL
    simp only [List.mem_map, List.mem_filter, List.mem_range, Bool.and_eq_true, decide_eq_true_eq, Bool.not_eq_true']
    constructor
    · rintro ⟨k, ⟨h1, h2, h3⟩, rfl⟩
      rw [List.getElem?_eq_getElem h1, Option.getD_some] at h3
      have h4 : G[k]? = some false := by rw [List.getElem?_eq_getElem h1, h3]
      show I64 (k : Int) ∧ (s.ms (k : Int)).isSome = true
      refine ⟨by unfold I64; omega, ?_⟩
      rw [hk.yes k h2 h4, List.getElem?_eq_getElem (by omega)]
      rfl
    · rintro ⟨-, h1⟩
      obtain ⟨m, hm⟩ := Option.isSome_iff_exists.1 h1
      obtain ⟨k, rfl, h2, h3, h4, -⟩ := hk.of_some hv hm
      exact ⟨k, ⟨by omega, h2, by rw [h4]; rfl⟩, rfl⟩
end Go.Proofs.Ytmcdmcnbnnfhnaa
