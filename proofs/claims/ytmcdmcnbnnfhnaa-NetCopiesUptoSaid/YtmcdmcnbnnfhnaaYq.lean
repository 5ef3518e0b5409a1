/-
  Chapter 28: append to a row of the call's own, with the block in which the result lies; the stages of put.
  Chapter 28: the reference network's put.
  Chapter 28: the reference network's Send and Duplicate.
  Chapter 28: the reference network's remove.
-/
import Derived.Test.YtmcdmcnbnnfhnaaYp
namespace Go.Proofs.Ytmcdmcnbnnfhnaa
open Go.RowKit
set_option maxRecDepth 100000

def ElemOk (P : Program) (t e : TypeId) (size bytes : Nat) : Prop := P.underlying t = some (.slice e) ∧ ∃ i z, P.info? e = some i ∧ i.zero = some z ∧ i.size = size ∧ i.bytes = bytes ∧ z.cells.size = size ∧ 0 < size
theorem elemInt : ElemOk Try.prog 59 3 1 8 := by
  obtain ⟨i0, hi, hz0, hz1, hz2⟩ := info_parts Try.infoInt1
  exact ⟨Try.underlying59, i0, _, hi, hz0, hz1, hz2, rfl, by decide⟩
theorem elemMsg : ElemOk Try.prog 50 39 15 248 := by
  obtain ⟨i0, hi, hz0, hz1, hz2⟩ := info_parts Try.infoMsg
  exact ⟨Try.underlying50, i0, _, hi, hz0, hz1, hz2, rfl, by decide⟩
/-- append of values that are read, to a row of the call's own: the row's block is the one it was, or the next new one. -/
theorem run_append_blk {P : Program} {w : World} {base : Nat} {t ty e : TypeId} {size bytes : Nat} (hE : ElemOk P t e size bytes) {v : Value} {n : Nat} {xs : List Value} {ad : Addr} {m c : Nat} {news : List Value} (hl : news.length = m * size) (hn1 : ∀ j u, news[j]? = some u → w.cell? (ad.add j) = some u) (h1 : ∀ u ∈ news, u.oneCell' = true)
    (hown : w.ownsRow base e size v n xs) (h63 : n + m ≤ maxLen) (hbytes : (n + m) * bytes ≤ 140737488355328) (hbase : base ≤ w.heap.size) :
    ∃ v' w', (Builtin.append_ #[t, t] ty #[v, .slice (some ad) m c]).run P w = .ok v' w' ∧ w'.ownsRow base e size v' (n + m) (xs ++ news) ∧ w.grownBy w' v.ownBlock ∧ (v'.ownBlock = v.ownBlock ∨ v'.ownBlock = some w.heap.size) := by
  obtain ⟨ht, i0, z, hi, hz0, hz1, hz2, hz3, hsz⟩ := hE
  obtain ⟨v', w', hr, h2, h3, h4⟩ := run_append_own (P := P) w base t ty e i0 z size bytes ht hi hz0 hz1 hz2 hz3 hsz v n xs hown ad m c news hl hn1 h1 h63 hbytes hbase
  refine ⟨v', w', hr, h2, h3, ?_⟩
  have hown2 := hown
  have hmb : n * bytes + m * bytes ≤ 140737488355328 := by rw [← Nat.add_mul]; exact hbytes
  have hsmall : n + m ≤ 9223372036854775807 := by simp only [maxLen] at h63; omega
  rcases hown.2 with ⟨rfl, h0⟩ | ⟨g0, cap, cur, rfl, hbg, hg, hnc, hcm, hcs, htake⟩
  · by_cases hm : m = 0
    · left; rw [h4.2 ⟨rfl, hm⟩]
    · have hr2 := run_append_nil (P := P) w t ty e i0 z ht hi hz0 ad m c news (by rw [hz1]; exact hl) hn1 (by omega) (by omega) (by rw [hz2]; omega)
      rw [hr2] at hr
      injection hr with hr _
      right; rw [← hr]; rfl
  · by_cases hroom : n + m ≤ cap
    · have hfit : n * i0.size + news.length ≤ cur.size := by rw [hl, hcs, hz1, ← Nat.add_mul]; exact Nat.mul_le_mul_right _ hroom
      have hr2 := run_append_room (P := P) w t ty e i0 ht hi g0 n cap cur hg ad m c news (by rw [hz1]; exact hl) hn1 h1 hroom hfit
      rw [hr2] at hr
      injection hr with hr _
      left; rw [← hr]; rfl
    · have hr2 := run_append_grow (P := P) w t ty e i0 z ht hi hz0 ⟨g0, 0, none⟩ n cap xs (by rw [hz1]; exact hown2.1) (hown2.cells (g := g0) rfl) ad m c news (by rw [hz1]; exact hl) hn1 (by omega) (by omega) (growslice_fits (by omega) (by rw [hz2]; exact hbytes))
      rw [hr2] at hr
      injection hr with hr _
      right; rw [← hr]; rfl
theorem wp_append_blk {P : Program} {o : Oper} {a : Act} {w : World} {K : Act → World → Prop} {Q : Exit → Act → World → Prop} (s x : Operand) (t : TypeId) (ho : o.op = .call { callee := .builtin .append, args := #[s, x], argTypes := #[t, t] })
    (base : Nat) {e : TypeId} {size bytes : Nat} (hE : ElemOk P t e size bytes) (v : Value) (n : Nat) (xs : List Value) (ad : Addr) (m c : Nat) (news : List Value) (hs : a.eval s = v) (hx : a.eval x = .slice (some ad) m c)
    (hl : news.length = m * size) (hn1 : ∀ j u, news[j]? = some u → w.cell? (ad.add j) = some u) (h1 : ∀ u ∈ news, u.oneCell' = true) (hown : w.ownsRow base e size v n xs) (h63 : n + m ≤ maxLen) (hbytes : (n + m) * bytes ≤ 140737488355328) (hbase : base ≤ w.heap.size)
    (h : ∀ v' w', w'.ownsRow base e size v' (n + m) (xs ++ news) → w.grownBy w' v.ownBlock → (v'.ownBlock = v.ownBlock ∨ v'.ownBlock = some w.heap.size) → K (a.put o.dst v') w') : o.wp P a w K Q := by
  obtain ⟨v', w', hr, h1, h2, h3⟩ := run_append_blk (ty := o.type) (c := c) hE hl hn1 h1 hown h63 hbytes hbase
  unfold Oper.wp execOp
  simp only [ho, resolve, invoke, builtin, Sem.run_bind, Sem.run_pure, Result.andThen_ok, List.map_toArray, List.map_cons, List.map_nil, hs, hx, hr]
  exact h v' w' h1 h2 h3
/-- What has been grown lies above what came in. -/
theorem below_grown {B : Nat} {w w' : World} {v : Value} (h : w.grownBy w' v.ownBlock) (hB : B ≤ w.heap.size) (hv : ∀ k, v.ownBlock = some k → B ≤ k) : Below B w w' :=
  (Kept.ofG (S := fun k => v.ownBlock = some k) h fun k e => e.symm).below hB fun k hk e => by have := hv k e; omega
theorem all_of {n : Nat} {ds : List Nat} {D : Nat → Bool} (h : (List.range n).all (fun j => ds.contains j) = true) (hd : ∀ j ∈ ds, D j = true) : ∀ j, j < n → D j = true := fun j hj => hd j (by
  rw [List.all_eq_true] at h
  simpa using h j (List.mem_range.2 hj))

/-- What the stages of put have in common: the world behind w1, the box of the message. -/
structure PutC (R : Nat → Prop) (w1 : World) (g : Nat) (cs : List Value) (w : World) : Prop where
  kept : Kept R w1 w
  box : Blk w g 39 cs.toArray
/-- The stages in which the numbers grow: a slice of one number, the append, the store. -/
def PutN (B : Nat) (R : Nat → Prop) (w1 : World) (u : Nat) (nv mv gv : Value) (r : RefS) (x : Int) (g : Nat) (cs : List Value) : Nat → (Nat → Value) → World → Prop
  | 0, _, w => RefAt B R u nv mv gv r w ∧ PutC R w1 g cs w
  | 1, v, w => (RefAt B R u nv mv gv r w ∧ PutC R w1 g cs w) ∧ ∃ q, v 0 = .slice (some ⟨q, 0, none⟩) 1 1 ∧ w.cell? ⟨q, 0, none⟩ = some (.int .i64 x) ∧ g ≠ q
  | 2, v, w => Blk w u 120 (refC r nv mv gv) ∧ RParts B R u (v 1) mv gv (r.nums ++ [x]) r.msgs r.gs w ∧ PutC R w1 g cs w
  | _, _, w => ∃ nv', RefAt B R u nv' mv gv { r with nums := r.nums ++ [x] } w ∧ PutC R w1 g cs w
/-- The stages in which the messages grow. -/
def PutM (B : Nat) (R : Nat → Prop) (w1 : World) (u : Nat) (nv mv gv : Value) (r : RefS) (m : MsgM) (g : Nat) (cs : List Value) : Nat → (Nat → Value) → World → Prop
  | 0, _, w => RefAt B R u nv mv gv r w ∧ PutC R w1 g cs w
  | 1, v, w => (RefAt B R u nv mv gv r w ∧ PutC R w1 g cs w) ∧ ∃ q, v 0 = .slice (some ⟨q, 0, none⟩) 1 1 ∧ Blk w q 39 cs.toArray
  | 2, v, w => Blk w u 120 (refC r nv mv gv) ∧ RParts B R u nv (v 1) gv r.nums (r.msgs ++ [m]) r.gs w ∧ Kept R w1 w
  | _, _, w => ∃ mv', RefAt B R u nv mv' gv { r with msgs := r.msgs ++ [m] } w ∧ Kept R w1 w
section
variable {B u g : Nat} {R : Nat → Prop} {w1 w w' : World} {nv mv gv : Value} {r : RefS} {x : Int} {m : MsgM} {cs : List Value} {v : Nat → Value} {s : Nat}
theorem PutC.on (h : PutC R w1 g cs w) (hb : Below w.heap.size w w') : PutC R w1 g cs w' := ⟨h.kept.trans (Kept.of hb), h.box.on hb⟩
theorem PutN.blk (h : PutN B R w1 u nv mv gv r x g cs s v w) (hs : s ≤ 2) : Blk w u 120 (refC r nv mv gv) := by
  match s, hs with
  | 0, _ => exact h.1.box
  | 1, _ => exact h.1.1.box
  | 2, _ => exact h.1
theorem PutM.blk (h : PutM B R w1 u nv mv gv r m g cs s v w) (hs : s ≤ 2) : Blk w u 120 (refC r nv mv gv) := by
  match s, hs with
  | 0, _ => exact h.1.box
  | 1, _ => exact h.1.1.box
  | 2, _ => exact h.1
theorem PutM.msg (h : PutM B R w1 u nv mv gv r m g cs s v w) (hs : s ≤ 1) : Blk w g 39 cs.toArray := by
  match s, hs with
  | 0, _ => exact h.2.box
  | 1, _ => exact h.1.2.box
/-- A slice of one number. -/
theorem PutN.s0 (h : PutN B R w1 u nv mv gv r x g cs 0 v w) : PutN B R w1 u nv mv gv r x g cs 1 (upW v 0 (.slice (some ⟨w.heap.size, 0, none⟩) 1 1)) (w.alloc (.cells #[.int .i64 x] 3)) :=
  ⟨⟨h.1.on ((Below.refl _ _).alloc (Nat.le_refl _) _), h.2.on ((Below.refl _ _).alloc (Nat.le_refl _) _)⟩, w.heap.size, rfl, (Blk.new w 3 #[.int .i64 x]).cell 0, by have := h.2.box.lt; omega⟩
/-- The number appended. -/
theorem PutN.s1 (h : PutN B R w1 u nv mv gv r x g cs 1 v w) (hR : ∀ k, w1.heap.size ≤ k → R k) (hg : nv.ownBlock ≠ some g) {v' : Value} (hrow : w'.ownsRow B 3 1 v' (r.nums.length + 1) (r.nums.map vi ++ [.int .i64 x])) (hgr : w.grownBy w' nv.ownBlock) (hv : v'.ownBlock = nv.ownBlock ∨ v'.ownBlock = some w.heap.size) :
    PutN B R w1 u nv mv gv r x g cs 2 (upW v 1 v') w' ∧ Below B w w' := by
  obtain ⟨⟨h1, h2⟩, -⟩ := h
  have hk : Kept (fun k => nv.ownBlock = some k) w w' := Kept.ofG hgr fun k e => e.symm
  have hsz := h2.kept.size
  refine ⟨⟨?_, ?_, h2.kept.trans (hk.mono fun k _ e => (h1.parts.rn k e).1), hk.blk h2.box fun e => hg e⟩, below_grown hgr h1.parts.bw fun k e => h1.parts.rb k (h1.parts.rn k e).1⟩
  · exact hk.blk h1.box fun e => (h1.parts.rn u e).2 rfl
  · refine h1.parts.setN (fun k hk => hR k (by omega)) hk (by simpa [upW, show vi x = .int .i64 x from rfl] using hrow) ?_
    simp only [upW, if_true]
    exact hv.imp id fun e k e' => by rw [e] at e'; injection e' with e'; omega
/-- The row of numbers stored. -/
theorem PutN.s2 (h : PutN B R w1 u nv mv gv r x g cs 2 v w) (hu : R u) (hg : u ≠ g) {v' : Nat → Value} : PutN B R w1 u nv mv gv r x g cs 3 v' (w.setCell ⟨u, 1, none⟩ (v 1)) := by
  obtain ⟨h1, h2, h3⟩ := h
  exact ⟨v 1, ⟨h1.set_ 1 (v 1), h2.box 1 (v 1)⟩, h3.kept.trans (Kept.set (S := R) (p := ⟨u, 1, none⟩) _ hu), h3.box.far (p := ⟨u, 1, none⟩) (fun e => hg e.symm) _⟩
theorem PutM.s0 (h : PutM B R w1 u nv mv gv r m g cs 0 v w) : PutM B R w1 u nv mv gv r m g cs 1 (upW v 0 (.slice (some ⟨w.heap.size, 0, none⟩) 1 1)) (w.alloc (.cells cs.toArray 39)) :=
  ⟨⟨h.1.on ((Below.refl _ _).alloc (Nat.le_refl _) _), h.2.on ((Below.refl _ _).alloc (Nat.le_refl _) _)⟩, w.heap.size, rfl, Blk.new w 39 cs.toArray⟩
theorem PutM.s1 (h : PutM B R w1 u nv mv gv r m g cs 1 v w) (hR : ∀ k, w1.heap.size ≤ k → R k) (hm : CellsD (fun k => k < B) w1 cs (msgD m)) {cells : List Value} (hc : MsgRow B w cells r.msgs) {v' : Value} (hrow : w'.ownsRow B 39 15 v' (r.msgs.length + 1) (cells ++ cs)) (hgr : w.grownBy w' mv.ownBlock) (hv : v'.ownBlock = mv.ownBlock ∨ v'.ownBlock = some w.heap.size) :
    PutM B R w1 u nv mv gv r m g cs 2 (upW v 1 v') w' ∧ Below B w w' := by
  obtain ⟨⟨h1, h2⟩, -⟩ := h
  have hk : Kept (fun k => mv.ownBlock = some k) w w' := Kept.ofG hgr fun k e => e.symm
  have hkB : ∀ b, b < B → b < w.heap.size → w'.heap[b]? = w.heap[b]? := fun b hb hlt => hk.block b hlt fun e => by have := h1.parts.rb b (h1.parts.rm b e).1; omega
  have hkB1 : ∀ b, b < B → b < w1.heap.size → w.heap[b]? = w1.heap[b]? := fun b hb hlt => h2.kept.block b hlt fun e => by have := h1.parts.rb b e; omega
  have hm' : CellsD (fun k => k < B) w cs (msgD m) := cells_keep hm h2.kept.size hkB1
  have h15 := msg_len hm
  have hsz := h2.kept.size
  refine ⟨⟨?_, ?_, h2.kept.trans (hk.mono fun k _ e => (h1.parts.rm k e).1)⟩, below_grown hgr h1.parts.bw fun k e => h1.parts.rb k (h1.parts.rm k e).1⟩
  · exact hk.blk h1.box fun e => (h1.parts.rm u e).2.1 rfl
  · have hone : MsgRow B w cs [m] := ⟨by rw [h15]; rfl, fun k hk => by
      have hk0 : k = 0 := by simpa using hk
      subst hk0
      exact ⟨cs, fun i _ => by rw [Nat.zero_mul, Nat.zero_add], hm'⟩⟩
    refine h1.parts.setM (fun k hk => hR k (by omega)) hk (KeptL.of (by simpa [upW] using hrow) ((hc.app hone).keep hk.size hkB)) ?_
    simp only [upW, if_true]
    exact hv.imp id fun e k e' => by rw [e] at e'; injection e' with e'; omega
theorem PutM.s2 (h : PutM B R w1 u nv mv gv r m g cs 2 v w) (hu : R u) {v' : Nat → Value} : PutM B R w1 u nv mv gv r m g cs 3 v' (w.setCell ⟨u, 2, none⟩ (v 1)) := by
  obtain ⟨h1, h2, h3⟩ := h
  exact ⟨v 1, ⟨h1.set_ 2 (v 1), h2.box 2 (v 1)⟩, h3.trans (Kept.set (S := R) (p := ⟨u, 2, none⟩) _ hu)⟩
end
end Go.Proofs.Ytmcdmcnbnnfhnaa
namespace Go.Proofs.Ytmcdmcnbnnfhnaa
open Go.RowKit
set_option maxRecDepth 100000

theorem wp_build_msg {o : Oper} {a : Act} {w : World} {K : Act → World → Prop} {Q : Exit → Act → World → Prop} (y : Operand) (ho : o.op = .buildSlice 50 1 #[(0, y)]) (cs : List Value) (hy : a.eval y = .agg cs.toArray) (hl : cs.length = 15)
    (h : K (a.put o.dst (.slice (some ⟨w.heap.size, 0, none⟩) 1 1)) (w.alloc (.cells cs.toArray 39))) : o.wp Try.prog a w K Q := by
  have hr := run_build_msg w cs hl
  unfold Oper.wp
  simp [execOp, ho, hy, hr, Result.andThen]
  exact h
def RPutMade (B : Nat) (R : Nat → Prop) (u : Nat) (gv : Value) (r : RefS) (m : MsgM) (w : World) (e : Ending) (w' : World) : Prop := e = .returned (.int .i64 (r.last + 1)) ∧ (∃ nv' mv', RefAt B R u nv' mv' gv (putQ r m) w') ∧ Kept R w w'
section
variable {B u : Nat} {R : Nat → Prop} {nv mv gv : Value} {r : RefS} {w : World}
set_option maxHeartbeats 8000000
theorem rput_any (m : MsgM) (cs : List Value) (h : RefAt B R u nv mv gv r w) (hR : ∀ k, w.heap.size ≤ k → R k) (hm : CellsD (fun k => k < B) w cs (msgD m)) (hl : 0 ≤ r.last) (hl2 : r.last < 4611686018427387904) (hn : r.nums.length ≤ 2000000) (hn2 : r.msgs.length ≤ 2000000) :
    Calls Try.prog 74 #[.pointer (some ⟨u, 0, none⟩), .agg cs.toArray] w (RPutMade B R u gv r m w) := by
  have HF : Hid (∀ e w', e = .returned (.int .i64 (r.last + 1)) → (∃ nv' mv', RefAt B R u nv' mv' gv (putQ r m) w') → Kept R w w' → RPutMade B R u gv r m w e w') := Lib.hid fun _ _ h1 h2 h3 => ⟨h1, h2, h3⟩
  obtain ⟨na, nc, rfl⟩ := row_slc h.parts.nums
  obtain ⟨mz, rfl⟩ := h.parts.msgs.slc
  have HN := Lib.hid h
  have HR := Lib.hid hR
  have HM := Lib.hid hm
  have HLEN := Lib.hid (msg_len hm)
  have HONE := Lib.hid (CellsD.all hm)
  have HLN := Lib.hid (And.intro hn hn2)
  have d3 : w.cell? ⟨u, 3, none⟩ = some (.int .i64 r.last) := h.box.cell 3
  have f3 : w.frozen? ⟨u, 3, none⟩ = false := h.box.frozen 3
  have z1 : u < w.heap.size := h.box.lt
  generalize hQ : RPutMade B R u gv r m w = Q at *
  clear hQ h hR hm hn hn2
  go_enter Try.func74, Try.ntmps74
  go_upto_region 2 with fail
  have HS0 : (World.setCell w ⟨u, 3, none⟩ (.int .i64 (r.last + 1))).heap.size = w.heap.size := by simp [World.setCell]
  have HB : Hid (RefAt B R u (.slice na r.nums.length nc) (.slice mz.1 r.msgs.length mz.2) gv { r with last := r.last + 1 } (World.alloc (World.setCell w ⟨u, 3, none⟩ (.int .i64 (r.last + 1))) (.cells cs.toArray 39)) ∧ PutC R (World.alloc (World.setCell w ⟨u, 3, none⟩ (.int .i64 (r.last + 1))) (.cells cs.toArray 39)) w.heap.size cs (World.alloc (World.setCell w ⟨u, 3, none⟩ (.int .i64 (r.last + 1))) (.cells cs.toArray 39)) ∧ Kept R w (World.alloc (World.setCell w ⟨u, 3, none⟩ (.int .i64 (r.last + 1))) (.cells cs.toArray 39))) := Lib.hid (by
    have hb := (Below.refl (World.setCell w ⟨u, 3, none⟩ (.int .i64 (r.last + 1))).heap.size (World.setCell w ⟨u, 3, none⟩ (.int .i64 (r.last + 1)))).alloc (Nat.le_refl _) (.cells cs.toArray 39)
    have hn := Blk.new (World.setCell w ⟨u, 3, none⟩ (.int .i64 (r.last + 1))) 39 cs.toArray
    rw [HS0] at hn
    exact ⟨(HN.out.set (r' := { r with last := r.last + 1 }) 3 _ rfl rfl rfl rfl).on hb, ⟨Kept.refl _ _, hn⟩, (Kept.set (S := R) (p := ⟨u, 3, none⟩) _ HN.out.parts.ru).trans (Kept.of hb)⟩)
  have HUG : Hid (u ≠ w.heap.size ∧ Value.ownBlock (.slice na r.nums.length nc) ≠ some w.heap.size ∧ Value.ownBlock (.slice mz.1 r.msgs.length mz.2) ≠ some w.heap.size) := Lib.hid ⟨by omega, fun e => by have := HN.out.parts.nlt e; omega, fun e => by have := HN.out.parts.mlt e; omega⟩
  generalize hw1 : World.alloc (World.setCell w _ _) _ = w1 at HB ⊢
  have HS1 := Lib.hid HB.out.2.2.size
  have HR1 : Hid (∀ k, w1.heap.size ≤ k → R k) := Lib.hid fun k hk => HR.out k (Nat.le_trans HS1.out hk)
  have HM1 : Hid (CellsD (fun k => k < B) w1 cs (msgD m)) := Lib.hid (cells_keep HM.out HS1.out fun b hb hlt => HB.out.2.2.block b hlt fun e => by have := HN.out.parts.rb b e; omega)
  have HBL : Hid (B ≤ w1.heap.size) := Lib.hid HB.out.1.parts.bw
  have HBU : Hid (B ≤ u ∧ R u) := Lib.hid ⟨HN.out.parts.rb u HN.out.parts.ru, HN.out.parts.ru⟩
  clear hw1 d3 f3 z1 HM HN HR HS0
  generalize w.heap.size = g at HB HUG ⊢
  refine region_inv B (JS [[8], [4, 9], [0, 1, 2, 3, 4, 5, 6, 7, 8, 9, 10, 12]] [9, 10, 13] (PutN B R w1 u (.slice na r.nums.length nc) (.slice mz.1 r.msgs.length mz.2) gv { r with last := r.last + 1 } (r.last + 1) g cs)) [some (.pointer (some ⟨u, 0, none⟩)), some (.pointer (some ⟨u, 0, none⟩)), some (.pointer (some ⟨u, 0, none⟩)), some (.pointer (some ⟨u, 1, none⟩)), some (.slice na r.nums.length nc), some (.pointer (some ⟨u, 0, none⟩)), some (.pointer (some ⟨u, 0, none⟩)), some (.pointer (some ⟨u, 3, none⟩)), some (.int .i64 (r.last + 1)), none, none, some (.pointer (some ⟨u, 0, none⟩)), some (.pointer (some ⟨u, 1, none⟩)), some (undef)] (by kernel_rfl) rfl (by kernel_rfl) (by kernel_rfl) (fun st => JS.start (fun _ => ⟨HB.out.1.on ⟨rfl, rfl, rfl, Nat.le_refl _, fun _ _ => rfl⟩, HB.out.2.1.on ⟨rfl, rfl, rfl, Nat.le_refl _, fun _ _ => rfl⟩⟩) st) (.cons ?n_0 (.cons ?n_1 (.cons ?n_2 (.cons ?n_3 (.cons ?n_4 (.cons ?n_5 (.cons ?n_6 (.cons ?n_7 (.cons ?n_8 (.cons ?n_9 (.cons ?n_10 (.cons ?n_11 (.cons ?n_12 (.cons ?n_13 .nil)))))))))))))) ?n_fin
  case n_0 =>
    intro wq hbw D st hJ hD hdp K hK
    simp only [Act.put, List.setIfInBounds_toArray, List.set_cons_zero, List.set_cons_succ] at hK ⊢
    unfold opStep
    rw [if_pos (by rfl)]
    go_simp
    exact hK.out _ _ (Below.refl _ _) (fun u hu => Option.some.inj hu) (hJ.pure 0 _ (by rfl)) _ rfl
  case n_1 =>
    intro wq hbw D st hJ hD hdp K hK
    simp only [Act.put, List.setIfInBounds_toArray, List.set_cons_zero, List.set_cons_succ] at hK ⊢
    unfold opStep
    rw [if_pos (by rfl)]
    go_simp
    exact hK.out _ _ (Below.refl _ _) (fun u hu => Option.some.inj hu) (hJ.pure 1 _ (by rfl)) _ rfl
  case n_2 =>
    intro wq hbw D st hJ hD hdp K hK
    simp only [Act.put, List.setIfInBounds_toArray, List.set_cons_zero, List.set_cons_succ] at hK ⊢
    unfold opStep
    rw [if_pos (by rfl)]
    go_simp
    exact hK.out _ _ (Below.refl _ _) (fun u hu => Option.some.inj hu) (hJ.pure 2 _ (by rfl)) _ rfl
  case n_3 =>
    intro wq hbw D st hJ hD hdp K hK
    simp only [Act.put, List.setIfInBounds_toArray, List.set_cons_zero, List.set_cons_succ] at hK ⊢
    unfold opStep
    rw [if_pos (by rfl)]
    go_simp
    exact hK.out _ _ (Below.refl _ _) (fun u hu => Option.some.inj hu) (hJ.pure 3 _ (by rfl)) _ rfl
  case n_4 =>
    intro wq hbw D st hJ hD hdp K hK
    simp only [Act.put, List.setIfInBounds_toArray, List.set_cons_zero, List.set_cons_succ] at hK ⊢
    unfold opStep
    rw [if_pos (by rfl)]
    obtain ⟨sg, hsg, hS⟩ := hJ.le 2 (i := 4) (by rfl) hD
    have d1 : wq.cell? ⟨u, 1, none⟩ = some (.slice na r.nums.length nc) := (hS.blk hsg).cell 1
    go_simp
    exact hK.out _ _ (Below.refl _ _) (fun u hu => Option.some.inj hu) (hJ.pure 4 _ (by rfl)) _ rfl
  case n_5 =>
    intro wq hbw D st hJ hD hdp K hK
    simp only [Act.put, List.setIfInBounds_toArray, List.set_cons_zero, List.set_cons_succ] at hK ⊢
    unfold opStep
    rw [if_pos (by rfl)]
    go_simp
    exact hK.out _ _ (Below.refl _ _) (fun u hu => Option.some.inj hu) (hJ.pure 5 _ (by rfl)) _ rfl
  case n_6 =>
    intro wq hbw D st hJ hD hdp K hK
    simp only [Act.put, List.setIfInBounds_toArray, List.set_cons_zero, List.set_cons_succ] at hK ⊢
    unfold opStep
    rw [if_pos (by rfl)]
    go_simp
    exact hK.out _ _ (Below.refl _ _) (fun u hu => Option.some.inj hu) (hJ.pure 6 _ (by rfl)) _ rfl
  case n_7 =>
    intro wq hbw D st hJ hD hdp K hK
    simp only [Act.put, List.setIfInBounds_toArray, List.set_cons_zero, List.set_cons_succ] at hK ⊢
    unfold opStep
    rw [if_pos (by rfl)]
    go_simp
    exact hK.out _ _ (Below.refl _ _) (fun u hu => Option.some.inj hu) (hJ.pure 7 _ (by rfl)) _ rfl
  case n_8 =>
    intro wq hbw D st hJ hD hdp K hK
    simp only [Act.put, List.setIfInBounds_toArray, List.set_cons_zero, List.set_cons_succ] at hK ⊢
    unfold opStep
    rw [if_pos (by rfl)]
    obtain ⟨sg, hsg, hS⟩ := hJ.le 2 (i := 8) (by rfl) hD
    have d1 : wq.cell? ⟨u, 3, none⟩ = some (.int .i64 (r.last + 1)) := (hS.blk hsg).cell 3
    go_simp
    exact hK.out _ _ (Below.refl _ _) (fun u hu => Option.some.inj hu) (hJ.pure 8 _ (by rfl)) _ rfl
  case n_9 =>
    intro wq hbw D st hJ hD hdp K hK
    simp only [Act.put, List.setIfInBounds_toArray, List.set_cons_zero, List.set_cons_succ] at hK ⊢
    unfold opStep
    rw [if_pos (by rfl)]
    have hpv : ∀ k', 0 < 0 → ([9, 10, 13] : List Nat)[0 - 1]? = some k' → D k' = true := fun _ h => absurd h (Nat.lt_irrefl 0)
    have hdd : ∀ i ∈ ([[8], [4, 9], [0, 1, 2, 3, 4, 5, 6, 7, 8, 9, 10, 12]] : List (List Nat)).getD 0 [], D i = true := fun i hi => hdp i ((of_decide_eq_true (by kernel_rfl) : ∀ i ∈ ([[8], [4, 9], [0, 1, 2, 3, 4, 5, 6, 7, 8, 9, 10, 12]] : List (List Nat)).getD 0 [], i ∈ depsOf _) i hi)
    have hW := hJ.here 0 9 rfl hD hpv
    have hsz := Nat.le_trans HBL.out hbw.size
    go_simp
    exact hK.out _ _ ((Below.refl _ _).alloc hsz _) (fun u hu => by cases hu) (hJ.step 0 9 _ rfl hD hpv hdd (of_decide_eq_true (by kernel_rfl)) (hW.s0)) _ rfl
  case n_10 =>
    intro wq hbw D st hJ hD hdp K hK
    simp only [Act.put, List.setIfInBounds_toArray, List.set_cons_zero, List.set_cons_succ] at hK ⊢
    unfold opStep
    rw [if_pos (by rfl)]
    have hpv : ∀ k', 0 < 1 → ([9, 10, 13] : List Nat)[1 - 1]? = some k' → D k' = true := fun k' _ hk => by injection hk with hk; subst hk; exact hdp 9 (of_decide_eq_true (by kernel_rfl))
    have hdd : ∀ i ∈ ([[8], [4, 9], [0, 1, 2, 3, 4, 5, 6, 7, 8, 9, 10, 12]] : List (List Nat)).getD 1 [], D i = true := fun i hi => hdp i ((of_decide_eq_true (by kernel_rfl) : ∀ i ∈ ([[8], [4, 9], [0, 1, 2, 3, 4, 5, 6, 7, 8, 9, 10, 12]] : List (List Nat)).getD 1 [], i ∈ depsOf _) i hi)
    have hW := hJ.here 1 10 rfl hD hpv
    have hsz := Nat.le_trans HBL.out hbw.size
    obtain ⟨⟨h1, h2⟩, q, e9, hq, -⟩ := id hW
    refine wp_append_blk (.tmp 16) (.tmp 21) 59 rfl B elemInt (.slice na r.nums.length nc) r.nums.length (r.nums.map vi) ⟨q, 0, none⟩ 1 1 [.int .i64 (r.last + 1)] rfl (by show st 9 = _; exact e9) rfl (fun j u hu => by rw [addr0]; cases j with | zero => simp at hu; rw [hq, hu] | succ j => simp at hu) (fun u hu => by rw [List.mem_singleton.1 hu]; rfl) h1.parts.nums (by have := HLN.out; unfold maxLen; omega) (by have := HLN.out; omega) hsz ?_
    intro v5 w7 r5 g5 b5
    have hs5 := hW.s1 HR1.out HUG.out.2.1 r5 g5 b5
    exact hK.out _ _ (hs5.2) (fun u hu => by cases hu) (hJ.step 1 10 _ rfl hD hpv hdd (of_decide_eq_true (by kernel_rfl)) hs5.1) _ rfl
  case n_11 =>
    intro wq hbw D st hJ hD hdp K hK
    simp only [Act.put, List.setIfInBounds_toArray, List.set_cons_zero, List.set_cons_succ] at hK ⊢
    unfold opStep
    rw [if_pos (by rfl)]
    go_simp
    exact hK.out _ _ (Below.refl _ _) (fun u hu => Option.some.inj hu) (hJ.pure 11 _ (by rfl)) _ rfl
  case n_12 =>
    intro wq hbw D st hJ hD hdp K hK
    simp only [Act.put, List.setIfInBounds_toArray, List.set_cons_zero, List.set_cons_succ] at hK ⊢
    unfold opStep
    rw [if_pos (by rfl)]
    go_simp
    exact hK.out _ _ (Below.refl _ _) (fun u hu => Option.some.inj hu) (hJ.pure 12 _ (by rfl)) _ rfl
  case n_13 =>
    intro wq hbw D st hJ hD hdp K hK
    simp only [Act.put, List.setIfInBounds_toArray, List.set_cons_zero, List.set_cons_succ] at hK ⊢
    unfold opStep
    rw [if_pos (by rfl)]
    have hpv : ∀ k', 0 < 2 → ([9, 10, 13] : List Nat)[2 - 1]? = some k' → D k' = true := fun k' _ hk => by injection hk with hk; subst hk; exact hdp 10 (of_decide_eq_true (by kernel_rfl))
    have hdd : ∀ i ∈ ([[8], [4, 9], [0, 1, 2, 3, 4, 5, 6, 7, 8, 9, 10, 12]] : List (List Nat)).getD 2 [], D i = true := fun i hi => hdp i ((of_decide_eq_true (by kernel_rfl) : ∀ i ∈ ([[8], [4, 9], [0, 1, 2, 3, 4, 5, 6, 7, 8, 9, 10, 12]] : List (List Nat)).getD 2 [], i ∈ depsOf _) i hi)
    have hW := hJ.here 2 13 rfl hD hpv
    have hsz := Nat.le_trans HBL.out hbw.size
    obtain ⟨a5, c5, e5⟩ := row_slc hW.2.1.nums
    have e10 : st 10 = .slice a5 (r.nums.length + 1) c5 := e5.trans (by simp)
    have d1 : wq.cell? ⟨u, 1, none⟩ = some (.slice na r.nums.length nc) := hW.1.cell 1
    have f1 : wq.frozen? ⟨u, 1, none⟩ = false := hW.1.frozen 1
    have z1 : u < wq.heap.size := hW.1.lt
    have hs5 := hW.s2 (v' := upW (valsOf [9, 10, 13] st) 2 undef) HBU.out.2 HUG.out.1
    rw [show valsOf [9, 10, 13] st 1 = .slice a5 (r.nums.length + 1) c5 from e10] at hs5
    rw [e10] at hK ⊢
    go_simp
    exact hK.out _ _ ((Below.refl _ _).setCell (p := ⟨u, 1, none⟩) HBU.out.1 _) (fun u hu => Option.some.inj hu) (hJ.step 2 13 _ rfl hD hpv hdd (of_decide_eq_true (by kernel_rfl)) hs5) _ rfl
  case n_fin =>
    intro wq hbw D st hall hJ
    simp only [FinAll, lfOf]
    simp only [Act.put, List.setIfInBounds_toArray, List.set_cons_zero, List.set_cons_succ]
    have hW := hJ.done (fun k hk => by simp at hk; rcases hk with rfl | rfl | rfl <;> exact hall _ (by decide))
    clear hJ hall
    generalize st 9 = z9
    generalize st 10 = z10
    obtain ⟨nv2, h2, h3⟩ := hW
    have HB2 : Hid (RefAt B R u nv2 (.slice mz.1 r.msgs.length mz.2) gv { r with last := r.last + 1, nums := r.nums ++ [r.last + 1] } wq ∧ PutC R wq g cs wq ∧ Kept R w wq) := Lib.hid ⟨h2, ⟨Kept.refl _ _, h3.box⟩, HB.out.2.2.trans h3.kept⟩
    have HS2 := Lib.hid h3.kept.size
    have HR2 : Hid (∀ k, wq.heap.size ≤ k → R k) := Lib.hid fun k hk => HR1.out k (Nat.le_trans HS2.out hk)
    have HM2 : Hid (CellsD (fun k => k < B) wq cs (msgD m)) := Lib.hid (cells_keep HM1.out HS2.out fun b hb hlt => h3.kept.block b hlt fun e => by have := h2.parts.rb b e; omega)
    have HBL2 : Hid (B ≤ wq.heap.size) := Lib.hid h2.parts.bw
    clear h2 h3 hbw HB HS1 HR1 HM1 HBL
    rename World => w2
    go_upto_region 3 with fail
    refine region_inv B (JS [[5], [4, 6], [0, 1, 2, 3, 4, 5, 6, 7, 9]] [6, 7, 10] (PutM B R w2 u nv2 (.slice mz.1 r.msgs.length mz.2) gv { r with last := r.last + 1, nums := r.nums ++ [r.last + 1] } m g cs)) [some (.pointer (some ⟨u, 0, none⟩)), some (.pointer (some ⟨u, 0, none⟩)), some (.pointer (some ⟨u, 0, none⟩)), some (.pointer (some ⟨u, 2, none⟩)), some (.slice mz.1 r.msgs.length mz.2), some (.agg cs.toArray), none, none, some (.pointer (some ⟨u, 0, none⟩)), some (.pointer (some ⟨u, 2, none⟩)), some (undef)] (by kernel_rfl) rfl (by kernel_rfl) (by kernel_rfl) (fun st => JS.start (fun _ => ⟨HB2.out.1.on ⟨rfl, rfl, rfl, Nat.le_refl _, fun _ _ => rfl⟩, HB2.out.2.1.on ⟨rfl, rfl, rfl, Nat.le_refl _, fun _ _ => rfl⟩⟩) st) (.cons ?m_0 (.cons ?m_1 (.cons ?m_2 (.cons ?m_3 (.cons ?m_4 (.cons ?m_5 (.cons ?m_6 (.cons ?m_7 (.cons ?m_8 (.cons ?m_9 (.cons ?m_10 .nil))))))))))) ?m_fin
    case m_0 =>
      intro wq hbw D st hJ hD hdp K hK
      simp only [Act.put, List.setIfInBounds_toArray, List.set_cons_zero, List.set_cons_succ] at hK ⊢
      unfold opStep
      rw [if_pos (by rfl)]
      go_simp
      exact hK.out _ _ (Below.refl _ _) (fun u hu => Option.some.inj hu) (hJ.pure 0 _ (by rfl)) _ rfl
    case m_1 =>
      intro wq hbw D st hJ hD hdp K hK
      simp only [Act.put, List.setIfInBounds_toArray, List.set_cons_zero, List.set_cons_succ] at hK ⊢
      unfold opStep
      rw [if_pos (by rfl)]
      go_simp
      exact hK.out _ _ (Below.refl _ _) (fun u hu => Option.some.inj hu) (hJ.pure 1 _ (by rfl)) _ rfl
    case m_2 =>
      intro wq hbw D st hJ hD hdp K hK
      simp only [Act.put, List.setIfInBounds_toArray, List.set_cons_zero, List.set_cons_succ] at hK ⊢
      unfold opStep
      rw [if_pos (by rfl)]
      go_simp
      exact hK.out _ _ (Below.refl _ _) (fun u hu => Option.some.inj hu) (hJ.pure 2 _ (by rfl)) _ rfl
    case m_3 =>
      intro wq hbw D st hJ hD hdp K hK
      simp only [Act.put, List.setIfInBounds_toArray, List.set_cons_zero, List.set_cons_succ] at hK ⊢
      unfold opStep
      rw [if_pos (by rfl)]
      go_simp
      exact hK.out _ _ (Below.refl _ _) (fun u hu => Option.some.inj hu) (hJ.pure 3 _ (by rfl)) _ rfl
    case m_4 =>
      intro wq hbw D st hJ hD hdp K hK
      simp only [Act.put, List.setIfInBounds_toArray, List.set_cons_zero, List.set_cons_succ] at hK ⊢
      unfold opStep
      rw [if_pos (by rfl)]
      obtain ⟨sg, hsg, hS⟩ := hJ.le 2 (i := 4) (by rfl) hD
      have d1 : wq.cell? ⟨u, 2, none⟩ = some (.slice mz.1 r.msgs.length mz.2) := (hS.blk hsg).cell 2
      go_simp
      exact hK.out _ _ (Below.refl _ _) (fun u hu => Option.some.inj hu) (hJ.pure 4 _ (by rfl)) _ rfl
    case m_5 =>
      intro wq hbw D st hJ hD hdp K hK
      simp only [Act.put, List.setIfInBounds_toArray, List.set_cons_zero, List.set_cons_succ] at hK ⊢
      unfold opStep
      rw [if_pos (by rfl)]
      obtain ⟨sg, hsg, hS⟩ := hJ.le 0 (i := 5) (by rfl) hD
      refine wp_load_msg (.tmp 3) (by rfl) g cs (by rfl) (hS.msg (by omega)) HLEN.out ?_
      exact hK.out _ _ (Below.refl _ _) (fun u hu => Option.some.inj hu) (hJ.pure 5 _ (by rfl)) _ rfl
    case m_6 =>
      intro wq hbw D st hJ hD hdp K hK
      simp only [Act.put, List.setIfInBounds_toArray, List.set_cons_zero, List.set_cons_succ] at hK ⊢
      unfold opStep
      rw [if_pos (by rfl)]
      have hpv : ∀ k', 0 < 0 → ([6, 7, 10] : List Nat)[0 - 1]? = some k' → D k' = true := fun _ h => absurd h (Nat.lt_irrefl 0)
      have hdd : ∀ i ∈ ([[5], [4, 6], [0, 1, 2, 3, 4, 5, 6, 7, 9]] : List (List Nat)).getD 0 [], D i = true := fun i hi => hdp i ((of_decide_eq_true (by kernel_rfl) : ∀ i ∈ ([[5], [4, 6], [0, 1, 2, 3, 4, 5, 6, 7, 9]] : List (List Nat)).getD 0 [], i ∈ depsOf _) i hi)
      have hW := hJ.here 0 6 rfl hD hpv
      have hsz := Nat.le_trans HBL2.out hbw.size
      refine wp_build_msg (.tmp 30) (by rfl) cs (by rfl) HLEN.out ?_
      exact hK.out _ _ ((Below.refl _ _).alloc hsz _) (fun u hu => by cases hu) (hJ.step 0 6 _ rfl hD hpv hdd (of_decide_eq_true (by kernel_rfl)) (hW.s0)) _ rfl
    case m_7 =>
      intro wq hbw D st hJ hD hdp K hK
      simp only [Act.put, List.setIfInBounds_toArray, List.set_cons_zero, List.set_cons_succ] at hK ⊢
      unfold opStep
      rw [if_pos (by rfl)]
      have hpv : ∀ k', 0 < 1 → ([6, 7, 10] : List Nat)[1 - 1]? = some k' → D k' = true := fun k' _ hk => by injection hk with hk; subst hk; exact hdp 6 (of_decide_eq_true (by kernel_rfl))
      have hdd : ∀ i ∈ ([[5], [4, 6], [0, 1, 2, 3, 4, 5, 6, 7, 9]] : List (List Nat)).getD 1 [], D i = true := fun i hi => hdp i ((of_decide_eq_true (by kernel_rfl) : ∀ i ∈ ([[5], [4, 6], [0, 1, 2, 3, 4, 5, 6, 7, 9]] : List (List Nat)).getD 1 [], i ∈ depsOf _) i hi)
      have hW := hJ.here 1 7 rfl hD hpv
      have hsz := Nat.le_trans HBL2.out hbw.size
      obtain ⟨⟨h1, h2⟩, q, e9, hq⟩ := id hW
      obtain ⟨cells, hrow, hc⟩ := h1.parts.msgs.row
      refine wp_append_blk (.tmp 29) (.tmp 31) 50 rfl B elemMsg (.slice mz.1 r.msgs.length mz.2) r.msgs.length cells ⟨q, 0, none⟩ 1 1 cs rfl (by show st 6 = _; exact e9) HLEN.out (fun j u hu => by rw [addr0, hq.cell, List.getElem?_toArray]; exact hu) (fun u hu => by have h2 := HONE.out; rw [Array.all_eq_true'] at h2; exact h2 u (by simpa using hu)) hrow (by have := HLN.out; unfold maxLen; omega) (by have := HLN.out; omega) hsz ?_
      intro v5 w7 r5 g5 b5
      have hs5 := hW.s1 HR2.out HM2.out hc r5 g5 b5
      exact hK.out _ _ (hs5.2) (fun u hu => by cases hu) (hJ.step 1 7 _ rfl hD hpv hdd (of_decide_eq_true (by kernel_rfl)) hs5.1) _ rfl
    case m_8 =>
      intro wq hbw D st hJ hD hdp K hK
      simp only [Act.put, List.setIfInBounds_toArray, List.set_cons_zero, List.set_cons_succ] at hK ⊢
      unfold opStep
      rw [if_pos (by rfl)]
      go_simp
      exact hK.out _ _ (Below.refl _ _) (fun u hu => Option.some.inj hu) (hJ.pure 8 _ (by rfl)) _ rfl
    case m_9 =>
      intro wq hbw D st hJ hD hdp K hK
      simp only [Act.put, List.setIfInBounds_toArray, List.set_cons_zero, List.set_cons_succ] at hK ⊢
      unfold opStep
      rw [if_pos (by rfl)]
      go_simp
      exact hK.out _ _ (Below.refl _ _) (fun u hu => Option.some.inj hu) (hJ.pure 9 _ (by rfl)) _ rfl
    case m_10 =>
      intro wq hbw D st hJ hD hdp K hK
      simp only [Act.put, List.setIfInBounds_toArray, List.set_cons_zero, List.set_cons_succ] at hK ⊢
      unfold opStep
      rw [if_pos (by rfl)]
      have hpv : ∀ k', 0 < 2 → ([6, 7, 10] : List Nat)[2 - 1]? = some k' → D k' = true := fun k' _ hk => by injection hk with hk; subst hk; exact hdp 7 (of_decide_eq_true (by kernel_rfl))
      have hdd : ∀ i ∈ ([[5], [4, 6], [0, 1, 2, 3, 4, 5, 6, 7, 9]] : List (List Nat)).getD 2 [], D i = true := fun i hi => hdp i ((of_decide_eq_true (by kernel_rfl) : ∀ i ∈ ([[5], [4, 6], [0, 1, 2, 3, 4, 5, 6, 7, 9]] : List (List Nat)).getD 2 [], i ∈ depsOf _) i hi)
      have hW := hJ.here 2 10 rfl hD hpv
      have hsz := Nat.le_trans HBL2.out hbw.size
      obtain ⟨z5, e5⟩ := hW.2.1.msgs.slc
      have e10 : st 7 = .slice z5.1 (r.msgs.length + 1) z5.2 := e5.trans (by simp)
      have d1 : wq.cell? ⟨u, 2, none⟩ = some (.slice mz.1 r.msgs.length mz.2) := hW.1.cell 2
      have f1 : wq.frozen? ⟨u, 2, none⟩ = false := hW.1.frozen 2
      have z1 : u < wq.heap.size := hW.1.lt
      have hs5 := hW.s2 (v' := upW (valsOf [6, 7, 10] st) 2 undef) HBU.out.2
      rw [show valsOf [6, 7, 10] st 1 = .slice z5.1 (r.msgs.length + 1) z5.2 from e10] at hs5
      rw [e10] at hK ⊢
      go_simp
      exact hK.out _ _ ((Below.refl _ _).setCell (p := ⟨u, 2, none⟩) HBU.out.1 _) (fun u hu => Option.some.inj hu) (hJ.step 2 10 _ rfl hD hpv hdd (of_decide_eq_true (by kernel_rfl)) hs5) _ rfl
    case m_fin =>
      intro wq hbw D st hall hJ
      simp only [FinAll, lfOf]
      simp only [Act.put, List.setIfInBounds_toArray, List.set_cons_zero, List.set_cons_succ]
      have hW := hJ.done (fun k hk => by simp at hk; rcases hk with rfl | rfl | rfl <;> exact hall _ (by decide))
      clear hJ hall
      generalize st 6 = z6
      generalize st 7 = z7
      obtain ⟨mv2, h2, h3⟩ := hW
      have HB3 : Hid (RefAt B R u nv2 mv2 gv (putQ r m) wq ∧ Kept R w wq) := Lib.hid ⟨h2, HB2.out.2.2.trans h3⟩
      have d3 : wq.cell? ⟨u, 3, none⟩ = some (.int .i64 (r.last + 1)) := h2.box.cell 3
      clear h2 h3 hbw HB2
      go_wp2
      exact HF.out _ _ rfl ⟨_, _, HB3.out.1⟩ HB3.out.2
end
end Go.Proofs.Ytmcdmcnbnnfhnaa
namespace Go.Proofs.Ytmcdmcnbnnfhnaa
open Go.RowKit
set_option maxRecDepth 100000

def ROpMade (B : Nat) (R : Nat → Prop) (u : Nat) (gv : Value) (a c : Int) (r' : RefS) (w : World) (e : Ending) (w' : World) : Prop := e = .returned (.tuple #[.int .i64 a, .int .i64 c]) ∧ (∃ nv' mv', RefAt B R u nv' mv' gv r' w') ∧ Kept R w w'
/-- A count that grows by one: before and behind the store. -/
def IncW (w1 : World) (u i : Nat) (x : Value) : Nat → (Nat → Value) → World → Prop
  | 0, _, w => Below w1.heap.size w1 w
  | _, _, w => ∃ w0, Below w1.heap.size w1 w0 ∧ w = w0.setCell ⟨u, i, none⟩ x
theorem sendQ_one {r : RefS} {m : MsgM} (h : (procB m.frm && procB m.to) = false) : sendQ r m = (0, 1, r) := by unfold sendQ; rw [h]; rfl
theorem sendQ_full {r : RefS} {m : MsgM} (h : (procB m.frm && procB m.to) = true) (h2 : r.limit ≤ (r.nums.length : Int)) : sendQ r m = (0, 7, r) := by unfold sendQ; rw [if_pos h, if_pos h2]
theorem sendQ_put {r : RefS} {m : MsgM} (h : (procB m.frm && procB m.to) = true) (h2 : ¬ r.limit ≤ (r.nums.length : Int)) : sendQ r m = (r.last + 1, 0, putQ { r with d0 := r.d0 + 1 } m) := by unfold sendQ; rw [if_pos h, if_neg h2]
theorem placeN_some {L : List Int} {x : Int} {i : Nat} (h : placeN L x = some i) : i < L.length := by
  unfold placeN at h
  exact (List.findIdx?_eq_some_iff_getElem.1 h).1
theorem dupQ_none {r : RefS} {x : Int} (h : placeN r.nums x = none) : dupQ r x = (0, 14, r) := by unfold dupQ; rw [h]
theorem dupQ_full {r : RefS} {x : Int} {i : Nat} (h : placeN r.nums x = some i) (h2 : r.limit ≤ (r.nums.length : Int)) : dupQ r x = (0, 7, r) := by unfold dupQ; rw [h]; exact if_pos h2
theorem dupQ_put {r : RefS} {x : Int} {i : Nat} (h : placeN r.nums x = some i) (h2 : ¬ r.limit ≤ (r.nums.length : Int)) : dupQ r x = (r.last + 1, 0, putQ { r with d1 := r.d1 + 1 } (msgQ r i)) := by unfold dupQ; rw [h]; exact if_neg h2
/-- A message of the reference's list. -/
theorem RefAt.msg {B u : Nat} {R : Nat → Prop} {nv mv gv : Value} {r : RefS} {w : World} (h : RefAt B R u nv mv gv r w) {k : Nat} (hk : k < r.msgs.length) : ∃ g cap ks, mv = .slice (some ⟨g, 0, none⟩) r.msgs.length cap ∧ g < w.heap.size ∧ w.rangeAt g (k * 15) ks ∧ CellsD (fun b => b < B) w ks (msgD (msgQ r k)) ∧ ks.length = 15 := by
  obtain ⟨g, cap, ks, e, -, h1, h2⟩ := h.parts.msgs.item hk
  refine ⟨g, cap, ks, e, h.parts.mlt (by rw [e]; rfl), h1, ?_, msg_len h2⟩
  unfold msgQ
  rw [List.getElem?_eq_getElem hk]
  exact h2
section
variable {B u : Nat} {R : Nat → Prop} {nv mv gv : Value} {r : RefS} {w : World}
set_option maxHeartbeats 8000000
theorem rsend_any (m : MsgM) (cs : List Value) (h : RefAt B R u nv mv gv r w) (hR : ∀ k, w.heap.size ≤ k → R k) (hm : CellsD (fun k => k < B) w cs (msgD m)) (hl : 0 ≤ r.last) (hl2 : r.last < 4611686018427387904) (hd : 0 ≤ r.d0) (hd2 : r.d0 < 4611686018427387904) (hn : r.nums.length ≤ 2000000) (hn2 : r.msgs.length ≤ 2000000) :
    Calls Try.prog 47 #[.pointer (some ⟨u, 0, none⟩), .agg cs.toArray] w (ROpMade B R u gv (sendQ r m).1 (sendQ r m).2.1 (sendQ r m).2.2 w) := by
  have HF : Hid (∀ a c r', sendQ r m = (a, c, r') → ∀ e w', e = .returned (.tuple #[.int .i64 a, .int .i64 c]) → (∃ nv' mv', RefAt B R u nv' mv' gv r' w') → Kept R w w' → ROpMade B R u gv (sendQ r m).1 (sendQ r m).2.1 (sendQ r m).2.2 w e w') := Lib.hid fun _ _ _ he _ _ h1 h2 h3 => by rw [he]; exact ⟨h1, h2, h3⟩
  obtain ⟨na, nc, rfl⟩ := row_slc h.parts.nums
  obtain ⟨mz, rfl⟩ := h.parts.msgs.slc
  have hb : Below w.heap.size w (w.alloc (.cells cs.toArray 39)) := (Below.refl _ _).alloc (Nat.le_refl _) _
  have HN : Hid (RefAt B R u (.slice na r.nums.length nc) (.slice mz.1 r.msgs.length mz.2) gv r (w.alloc (.cells cs.toArray 39))) := Lib.hid (h.on hb)
  have HR := Lib.hid hR
  have HM : Hid (CellsD (fun k => k < B) (w.alloc (.cells cs.toArray 39)) cs (msgD m)) := Lib.hid (hm.on hb)
  have HLEN := Lib.hid (msg_len hm)
  have HFT := Lib.hid (msg_ft hm)
  have HLN := Lib.hid (And.intro hn hn2)
  have HL := Lib.hid (And.intro hl hl2)
  have HB : Hid (Blk (w.alloc (.cells cs.toArray 39)) w.heap.size 39 cs.toArray ∧ Kept R w (w.alloc (.cells cs.toArray 39)) ∧ B ≤ w.heap.size) := Lib.hid ⟨Blk.new w _ _, Kept.of hb, h.parts.bw⟩
  have HD : Hid ((w.alloc (.cells cs.toArray 39)).cell? ⟨w.heap.size, 1, none⟩ = some (.int .i64 m.frm) ∧ (w.alloc (.cells cs.toArray 39)).cell? ⟨w.heap.size, 2, none⟩ = some (.int .i64 m.to)) := Lib.hid ⟨by rw [HB.out.1.cell, List.getElem?_toArray]; exact HFT.out.1, by rw [HB.out.1.cell, List.getElem?_toArray]; exact HFT.out.2.1⟩
  have HPA := Lib.hid fun W => rprocess_any m.frm W
  have HPC := Lib.hid fun W => rprocess_any m.to W
  have HUG : Hid (w.heap.size ≠ u) := Lib.hid (by have := h.box.lt; omega)
  have hl64 : r.nums.length ≤ 2000000 := hn
  generalize hQ : ROpMade B R u gv (sendQ r m).1 (sendQ r m).2.1 (sendQ r m).2.2 w = Q at *
  clear hQ h hR hm hb hn hn2 hl hl2
  have dA := HD.out.1
  have dC := HD.out.2
  cases hpa : procB m.frm with
  | false =>
    have HQ := Lib.hid (HF.out 0 1 r (sendQ_one (by rw [hpa]; rfl)))
    rw [hpa] at HPA
    clear hpa HPC
    go_enter Try.func47, Try.ntmps47
    go_wp2_with fail
    refine (HPA.out _).mono ?_
    rintro e w' ⟨rfl, rfl⟩
    go_wp2_with fail
    exact HQ.out _ _ rfl ⟨_, _, HN.out⟩ HB.out.2.1
  | true =>
  cases hpc : procB m.to with
  | false =>
    have HQ := Lib.hid (HF.out 0 1 r (sendQ_one (by rw [hpa, hpc]; rfl)))
    rw [hpa] at HPA
    rw [hpc] at HPC
    clear hpa hpc
    go_enter Try.func47, Try.ntmps47
    go_wp2_with fail
    refine (HPA.out _).mono ?_
    rintro e w' ⟨rfl, rfl⟩
    go_wp2_with fail
    refine (HPC.out _).mono ?_
    rintro e w' ⟨rfl, rfl⟩
    go_wp2_with fail
    exact HQ.out _ _ rfl ⟨_, _, HN.out⟩ HB.out.2.1
  | true =>
  have HPT : Hid ((procB m.frm && procB m.to) = true) := Lib.hid (by rw [hpa, hpc]; rfl)
  rw [hpa] at HPA
  rw [hpc] at HPC
  clear hpa hpc
  by_cases hf : r.limit ≤ (r.nums.length : Int)
  · have HQ := Lib.hid (HF.out 0 7 r (sendQ_full HPT.out hf))
    have c1 : decide (r.limit ≤ (r.nums.length : Int)) = true := decide_eq_true hf
    clear hf
    go_enter Try.func47, Try.ntmps47
    go_wp2_with fail
    refine (HPA.out _).mono ?_
    rintro e w' ⟨rfl, rfl⟩
    go_wp2_with fail
    refine (HPC.out _).mono ?_
    rintro e w' ⟨rfl, rfl⟩
    go_upto_region 3 with fail
    refine region_left [.is (.pointer (some ⟨u, 0, none⟩)), .is (.pointer (some ⟨u, 0, none⟩)), .is (.pointer (some ⟨u, 1, none⟩)), .is (.slice na r.nums.length nc), .is (.int .i64 (r.nums.length : Nat)), .is (.pointer (some ⟨u, 0, none⟩)), .is (.pointer (some ⟨u, 0, none⟩)), .is (.pointer (some ⟨u, 0, none⟩)), .is (.int .i64 r.limit), .is (.bool true)] (by kernel_rfl) rfl (by kernel_rfl) (by kernel_rfl) (.cons ?s_0 (.cons ?s_1 (.cons ?s_2 (.cons ?s_3 (.cons ?s_4 (.cons ?s_5 (.cons ?s_6 (.cons ?s_7 (.cons ?s_8 (.cons ?s_9 .nil)))))))))) ?s_fin
    case s_0 =>
      intro wq hbw st  K hK
      simp only [Act.put, List.setIfInBounds_toArray, List.set_cons_zero, List.set_cons_succ] at hK ⊢
      unfold opStep
      rw [if_pos (by rfl)]
      go_simp
      exact hK.out _ _ (Below.refl _ _) rfl _ rfl
    case s_1 =>
      intro wq hbw st  K hK
      simp only [Act.put, List.setIfInBounds_toArray, List.set_cons_zero, List.set_cons_succ] at hK ⊢
      unfold opStep
      rw [if_pos (by rfl)]
      go_simp
      exact hK.out _ _ (Below.refl _ _) rfl _ rfl
    case s_2 =>
      intro wq hbw st  K hK
      simp only [Act.put, List.setIfInBounds_toArray, List.set_cons_zero, List.set_cons_succ] at hK ⊢
      unfold opStep
      rw [if_pos (by rfl)]
      go_simp
      exact hK.out _ _ (Below.refl _ _) rfl _ rfl
    case s_3 =>
      intro wq hbw st  K hK
      simp only [Act.put, List.setIfInBounds_toArray, List.set_cons_zero, List.set_cons_succ] at hK ⊢
      unfold opStep
      rw [if_pos (by rfl)]
      have d1 : wq.cell? ⟨u, 1, none⟩ = some (.slice na r.nums.length nc) := (HN.out.on hbw).box.cell 1
      go_simp
      exact hK.out _ _ (Below.refl _ _) rfl _ rfl
    case s_4 =>
      intro wq hbw st  K hK
      simp only [Act.put, List.setIfInBounds_toArray, List.set_cons_zero, List.set_cons_succ] at hK ⊢
      unfold opStep
      rw [if_pos (by rfl)]
      go_simp
      exact hK.out _ _ (Below.refl _ _) rfl _ rfl
    case s_5 =>
      intro wq hbw st  K hK
      simp only [Act.put, List.setIfInBounds_toArray, List.set_cons_zero, List.set_cons_succ] at hK ⊢
      unfold opStep
      rw [if_pos (by rfl)]
      go_simp
      exact hK.out _ _ (Below.refl _ _) rfl _ rfl
    case s_6 =>
      intro wq hbw st  K hK
      simp only [Act.put, List.setIfInBounds_toArray, List.set_cons_zero, List.set_cons_succ] at hK ⊢
      unfold opStep
      rw [if_pos (by rfl)]
      go_simp
      exact hK.out _ _ (Below.refl _ _) rfl _ rfl
    case s_7 =>
      intro wq hbw st  K hK
      simp only [Act.put, List.setIfInBounds_toArray, List.set_cons_zero, List.set_cons_succ] at hK ⊢
      unfold opStep
      rw [if_pos (by rfl)]
      go_simp
      exact hK.out _ _ (Below.refl _ _) rfl _ rfl
    case s_8 =>
      intro wq hbw st  K hK
      simp only [Act.put, List.setIfInBounds_toArray, List.set_cons_zero, List.set_cons_succ] at hK ⊢
      unfold opStep
      rw [if_pos (by rfl)]
      have d0 : wq.cell? ⟨u, 0, none⟩ = some (.int .i64 r.limit) := (HN.out.on hbw).box.cell 0
      go_simp
      exact hK.out _ _ (Below.refl _ _) rfl _ rfl
    case s_9 =>
      intro wq hbw st  K hK
      simp only [Act.put, List.setIfInBounds_toArray, List.set_cons_zero, List.set_cons_succ] at hK ⊢
      unfold opStep
      rw [if_pos (by rfl)]
      go_simp
      exact hK.out _ _ (Below.refl _ _) rfl _ rfl
    case s_fin =>
      intro wq hbw
      try simp only [FinAll]
      simp only [Act.put, List.setIfInBounds_toArray, List.set_cons_zero, List.set_cons_succ]
      go_wp2_with fail
      exact HQ.out _ _ rfl ⟨_, _, HN.out.on hbw⟩ (HB.out.2.1.trans (Kept.of hbw))
  · have HQ := Lib.hid (HF.out _ 0 _ (sendQ_put HPT.out hf))
    have c1 : decide (r.limit ≤ (r.nums.length : Int)) = false := decide_eq_false hf
    clear hf
    go_enter Try.func47, Try.ntmps47
    go_wp2_with fail
    refine (HPA.out _).mono ?_
    rintro e w' ⟨rfl, rfl⟩
    go_wp2_with fail
    refine (HPC.out _).mono ?_
    rintro e w' ⟨rfl, rfl⟩
    go_upto_region 3 with fail
    refine region_left [.is (.pointer (some ⟨u, 0, none⟩)), .is (.pointer (some ⟨u, 0, none⟩)), .is (.pointer (some ⟨u, 1, none⟩)), .is (.slice na r.nums.length nc), .is (.int .i64 (r.nums.length : Nat)), .is (.pointer (some ⟨u, 0, none⟩)), .is (.pointer (some ⟨u, 0, none⟩)), .is (.pointer (some ⟨u, 0, none⟩)), .is (.int .i64 r.limit), .is (.bool false)] (by kernel_rfl) rfl (by kernel_rfl) (by kernel_rfl) (.cons ?s_0 (.cons ?s_1 (.cons ?s_2 (.cons ?s_3 (.cons ?s_4 (.cons ?s_5 (.cons ?s_6 (.cons ?s_7 (.cons ?s_8 (.cons ?s_9 .nil)))))))))) ?s_fin
    case s_0 =>
      intro wq hbw st  K hK
      simp only [Act.put, List.setIfInBounds_toArray, List.set_cons_zero, List.set_cons_succ] at hK ⊢
      unfold opStep
      rw [if_pos (by rfl)]
      go_simp
      exact hK.out _ _ (Below.refl _ _) rfl _ rfl
    case s_1 =>
      intro wq hbw st  K hK
      simp only [Act.put, List.setIfInBounds_toArray, List.set_cons_zero, List.set_cons_succ] at hK ⊢
      unfold opStep
      rw [if_pos (by rfl)]
      go_simp
      exact hK.out _ _ (Below.refl _ _) rfl _ rfl
    case s_2 =>
      intro wq hbw st  K hK
      simp only [Act.put, List.setIfInBounds_toArray, List.set_cons_zero, List.set_cons_succ] at hK ⊢
      unfold opStep
      rw [if_pos (by rfl)]
      go_simp
      exact hK.out _ _ (Below.refl _ _) rfl _ rfl
    case s_3 =>
      intro wq hbw st  K hK
      simp only [Act.put, List.setIfInBounds_toArray, List.set_cons_zero, List.set_cons_succ] at hK ⊢
      unfold opStep
      rw [if_pos (by rfl)]
      have d1 : wq.cell? ⟨u, 1, none⟩ = some (.slice na r.nums.length nc) := (HN.out.on hbw).box.cell 1
      go_simp
      exact hK.out _ _ (Below.refl _ _) rfl _ rfl
    case s_4 =>
      intro wq hbw st  K hK
      simp only [Act.put, List.setIfInBounds_toArray, List.set_cons_zero, List.set_cons_succ] at hK ⊢
      unfold opStep
      rw [if_pos (by rfl)]
      go_simp
      exact hK.out _ _ (Below.refl _ _) rfl _ rfl
    case s_5 =>
      intro wq hbw st  K hK
      simp only [Act.put, List.setIfInBounds_toArray, List.set_cons_zero, List.set_cons_succ] at hK ⊢
      unfold opStep
      rw [if_pos (by rfl)]
      go_simp
      exact hK.out _ _ (Below.refl _ _) rfl _ rfl
    case s_6 =>
      intro wq hbw st  K hK
      simp only [Act.put, List.setIfInBounds_toArray, List.set_cons_zero, List.set_cons_succ] at hK ⊢
      unfold opStep
      rw [if_pos (by rfl)]
      go_simp
      exact hK.out _ _ (Below.refl _ _) rfl _ rfl
    case s_7 =>
      intro wq hbw st  K hK
      simp only [Act.put, List.setIfInBounds_toArray, List.set_cons_zero, List.set_cons_succ] at hK ⊢
      unfold opStep
      rw [if_pos (by rfl)]
      go_simp
      exact hK.out _ _ (Below.refl _ _) rfl _ rfl
    case s_8 =>
      intro wq hbw st  K hK
      simp only [Act.put, List.setIfInBounds_toArray, List.set_cons_zero, List.set_cons_succ] at hK ⊢
      unfold opStep
      rw [if_pos (by rfl)]
      have d0 : wq.cell? ⟨u, 0, none⟩ = some (.int .i64 r.limit) := (HN.out.on hbw).box.cell 0
      go_simp
      exact hK.out _ _ (Below.refl _ _) rfl _ rfl
    case s_9 =>
      intro wq hbw st  K hK
      simp only [Act.put, List.setIfInBounds_toArray, List.set_cons_zero, List.set_cons_succ] at hK ⊢
      unfold opStep
      rw [if_pos (by rfl)]
      go_simp
      exact hK.out _ _ (Below.refl _ _) rfl _ rfl
    case s_fin =>
      intro wq hbw
      try simp only [FinAll]
      simp only [Act.put, List.setIfInBounds_toArray, List.set_cons_zero, List.set_cons_succ]
      have HN2 := Lib.hid (HN.out.on hbw)
      have HB2 : Hid (Blk wq w.heap.size 39 cs.toArray ∧ Kept R w wq) := Lib.hid ⟨HB.out.1.on hbw, HB.out.2.1.trans (Kept.of hbw)⟩
      have HM2 := Lib.hid (HM.out.on hbw)
      clear hbw HN HM dA dC HD
      rename World => w2
      have hwr : IntKind.i64.wrap (r.d0 + 1) = r.d0 + 1 := IntWalk.i64_in _ (by omega)
      have HBU : Hid (B ≤ u) := Lib.hid (HN2.out.parts.rb u HN2.out.parts.ru)
      have HBL : Hid (B ≤ w2.heap.size) := Lib.hid HN2.out.parts.bw
      go_upto_region 5 with fail
      refine region_inv B (JS [[0, 1, 2, 3, 4, 5, 8]] [9] (IncW w2 u 6 (.int .i64 (r.d0 + 1)))) [some (.pointer (some ⟨u, 0, none⟩)), some (.pointer (some ⟨u, 0, none⟩)), some (.pointer (some ⟨u, 6, none⟩)), some (.pointer (some ⟨u, 6, none⟩)), some (.int .i64 r.d0), some (.int .i64 (r.d0 + 1)), some (.pointer (some ⟨u, 0, none⟩)), some (.pointer (some ⟨u, 6, none⟩)), some (.pointer (some ⟨u, 6, none⟩)), some (undef)] (by kernel_rfl) rfl (by kernel_rfl) (by kernel_rfl) (fun st => JS.start (fun _ => ⟨rfl, rfl, rfl, Nat.le_refl _, fun _ _ => rfl⟩) st) (.cons ?i_0 (.cons ?i_1 (.cons ?i_2 (.cons ?i_3 (.cons ?i_4 (.cons ?i_5 (.cons ?i_6 (.cons ?i_7 (.cons ?i_8 (.cons ?i_9 .nil)))))))))) ?i_fin
      case i_0 =>
        intro wq hbw D st hJ hD hdp K hK
        simp only [Act.put, List.setIfInBounds_toArray, List.set_cons_zero, List.set_cons_succ] at hK ⊢
        unfold opStep
        rw [if_pos (by rfl)]
        go_simp
        exact hK.out _ _ (Below.refl _ _) (fun u hu => Option.some.inj hu) (hJ.pure 0 _ (by rfl)) _ rfl
      case i_1 =>
        intro wq hbw D st hJ hD hdp K hK
        simp only [Act.put, List.setIfInBounds_toArray, List.set_cons_zero, List.set_cons_succ] at hK ⊢
        unfold opStep
        rw [if_pos (by rfl)]
        go_simp
        exact hK.out _ _ (Below.refl _ _) (fun u hu => Option.some.inj hu) (hJ.pure 1 _ (by rfl)) _ rfl
      case i_2 =>
        intro wq hbw D st hJ hD hdp K hK
        simp only [Act.put, List.setIfInBounds_toArray, List.set_cons_zero, List.set_cons_succ] at hK ⊢
        unfold opStep
        rw [if_pos (by rfl)]
        go_simp
        exact hK.out _ _ (Below.refl _ _) (fun u hu => Option.some.inj hu) (hJ.pure 2 _ (by rfl)) _ rfl
      case i_3 =>
        intro wq hbw D st hJ hD hdp K hK
        simp only [Act.put, List.setIfInBounds_toArray, List.set_cons_zero, List.set_cons_succ] at hK ⊢
        unfold opStep
        rw [if_pos (by rfl)]
        go_simp
        exact hK.out _ _ (Below.refl _ _) (fun u hu => Option.some.inj hu) (hJ.pure 3 _ (by rfl)) _ rfl
      case i_4 =>
        intro wq hbw D st hJ hD hdp K hK
        simp only [Act.put, List.setIfInBounds_toArray, List.set_cons_zero, List.set_cons_succ] at hK ⊢
        unfold opStep
        rw [if_pos (by rfl)]
        obtain ⟨sg, hsg, hS⟩ := hJ.le 0 (i := 4) (by rfl) hD
        obtain rfl : sg = 0 := by omega
        have hS0 : Below w2.heap.size w2 wq := hS
        have d1 : wq.cell? ⟨u, 6, none⟩ = some (.int .i64 r.d0) := (HN2.out.on hS0).box.cell 6
        go_simp
        exact hK.out _ _ (Below.refl _ _) (fun u hu => Option.some.inj hu) (hJ.pure 4 _ (by rfl)) _ rfl
      case i_5 =>
        intro wq hbw D st hJ hD hdp K hK
        simp only [Act.put, List.setIfInBounds_toArray, List.set_cons_zero, List.set_cons_succ] at hK ⊢
        unfold opStep
        rw [if_pos (by rfl)]
        go_simp
        exact hK.out _ _ (Below.refl _ _) (fun u hu => Option.some.inj hu) (hJ.pure 5 _ (by rfl)) _ rfl
      case i_6 =>
        intro wq hbw D st hJ hD hdp K hK
        simp only [Act.put, List.setIfInBounds_toArray, List.set_cons_zero, List.set_cons_succ] at hK ⊢
        unfold opStep
        rw [if_pos (by rfl)]
        go_simp
        exact hK.out _ _ (Below.refl _ _) (fun u hu => Option.some.inj hu) (hJ.pure 6 _ (by rfl)) _ rfl
      case i_7 =>
        intro wq hbw D st hJ hD hdp K hK
        simp only [Act.put, List.setIfInBounds_toArray, List.set_cons_zero, List.set_cons_succ] at hK ⊢
        unfold opStep
        rw [if_pos (by rfl)]
        go_simp
        exact hK.out _ _ (Below.refl _ _) (fun u hu => Option.some.inj hu) (hJ.pure 7 _ (by rfl)) _ rfl
      case i_8 =>
        intro wq hbw D st hJ hD hdp K hK
        simp only [Act.put, List.setIfInBounds_toArray, List.set_cons_zero, List.set_cons_succ] at hK ⊢
        unfold opStep
        rw [if_pos (by rfl)]
        go_simp
        exact hK.out _ _ (Below.refl _ _) (fun u hu => Option.some.inj hu) (hJ.pure 8 _ (by rfl)) _ rfl
      case i_9 =>
        intro wq hbw D st hJ hD hdp K hK
        simp only [Act.put, List.setIfInBounds_toArray, List.set_cons_zero, List.set_cons_succ] at hK ⊢
        unfold opStep
        rw [if_pos (by rfl)]
        have hpv : ∀ k', 0 < 0 → ([9] : List Nat)[0 - 1]? = some k' → D k' = true := fun _ h => absurd h (Nat.lt_irrefl 0)
        have hdd : ∀ i ∈ ([[0, 1, 2, 3, 4, 5, 8]] : List (List Nat)).getD 0 [], D i = true := fun i hi => hdp i ((of_decide_eq_true (by kernel_rfl) : ∀ i ∈ ([[0, 1, 2, 3, 4, 5, 8]] : List (List Nat)).getD 0 [], i ∈ depsOf _) i hi)
        have hW := hJ.here 0 9 rfl hD hpv
        have hsz := Nat.le_trans HBL.out hbw.size
        have hW0 : Below w2.heap.size w2 wq := hW
        have d1 : wq.cell? ⟨u, 6, none⟩ = some (.int .i64 r.d0) := (HN2.out.on hW0).box.cell 6
        have f1 : wq.frozen? ⟨u, 6, none⟩ = false := (HN2.out.on hW0).box.frozen 6
        have z1 : u < wq.heap.size := (HN2.out.on hW0).box.lt
        go_simp
        exact hK.out _ _ ((Below.refl _ _).setCell (p := ⟨u, 6, none⟩) HBU.out _) (fun u hu => Option.some.inj hu) (hJ.step 0 9 _ rfl hD hpv hdd (of_decide_eq_true (by kernel_rfl)) ⟨wq, hW0, rfl⟩) _ rfl
      case i_fin =>
        intro wq hbw D st hall hJ
        simp only [FinAll, lfOf]
        simp only [Act.put, List.setIfInBounds_toArray, List.set_cons_zero, List.set_cons_succ]
        have hW := hJ.done (fun k hk => by simp at hk; subst hk; exact hall _ (by decide))
        clear hJ hall
        obtain ⟨w0, hb0, rfl⟩ := hW
        clear hbw
        have HN3 : Hid (RefAt B R u (.slice na r.nums.length nc) (.slice mz.1 r.msgs.length mz.2) gv { r with d0 := r.d0 + 1 } (w0.setCell ⟨u, 6, none⟩ (.int .i64 (r.d0 + 1)))) := Lib.hid ((HN2.out.on hb0).set 6 _ rfl rfl rfl rfl)
        have HK3 : Hid (Kept R w2 (w0.setCell ⟨u, 6, none⟩ (.int .i64 (r.d0 + 1)))) := Lib.hid ((Kept.of hb0).trans (Kept.set (S := R) (p := ⟨u, 6, none⟩) _ HN2.out.parts.ru))
        have HB3 : Hid (Blk (w0.setCell ⟨u, 6, none⟩ (.int .i64 (r.d0 + 1))) w.heap.size 39 cs.toArray) := Lib.hid ((HB2.out.1.on hb0).far (p := ⟨u, 6, none⟩) (HUG.out) _)
        have HM3 : Hid (CellsD (fun k => k < B) (w0.setCell ⟨u, 6, none⟩ (.int .i64 (r.d0 + 1))) cs (msgD m)) := Lib.hid (cells_keep HM2.out HK3.out.size fun b hb hlt => HK3.out.block b hlt fun e => by have := HN2.out.parts.rb b e; omega)
        go_upto_region 6 with fail
        clear hb0
        generalize World.setCell w0 _ _ = w3 at HN3 HK3 HB3 HM3 ⊢
        have HCL := Lib.hid (rput_any m cs HN3.out (fun k hk => HR.out k (by have h1 := HK3.out.size; have h2 := HB2.out.2.size; omega)) HM3.out HL.out.1 HL.out.2 HLN.out.1 HLN.out.2)
        go_wp2_with (refine wpList_load_msg rfl (.tmp 3) rfl w.heap.size cs rfl HB3.out HLEN.out ?_)
        refine HCL.out.mono ?_
        rintro e w4 ⟨rfl, h4, hk4⟩
        have H4 := Lib.hid (And.intro h4 hk4)
        clear h4 hk4 HCL
        go_wp2_with fail
        exact HQ.out _ _ rfl H4.out.1 (HB2.out.2.trans (HK3.out.trans H4.out.2))
theorem rduplicate_any (x : Int) (h : RefAt B R u nv mv gv r w) (hR : ∀ k, w.heap.size ≤ k → R k) (hl : 0 ≤ r.last) (hl2 : r.last < 4611686018427387904) (hd : 0 ≤ r.d1) (hd2 : r.d1 < 4611686018427387904) (hn : r.nums.length ≤ 2000000) (hml : r.msgs.length = r.nums.length) :
    Calls Try.prog 50 #[.pointer (some ⟨u, 0, none⟩), .int .i64 x] w (ROpMade B R u gv (dupQ r x).1 (dupQ r x).2.1 (dupQ r x).2.2 w) := by
  have HF : Hid (∀ a c r', dupQ r x = (a, c, r') → ∀ e w', e = .returned (.tuple #[.int .i64 a, .int .i64 c]) → (∃ nv' mv', RefAt B R u nv' mv' gv r' w') → Kept R w w' → ROpMade B R u gv (dupQ r x).1 (dupQ r x).2.1 (dupQ r x).2.2 w e w') := Lib.hid fun _ _ _ he _ _ h1 h2 h3 => by rw [he]; exact ⟨h1, h2, h3⟩
  obtain ⟨na, nc, rfl⟩ := row_slc h.parts.nums
  obtain ⟨mz, rfl⟩ := h.parts.msgs.slc
  have HPL := Lib.hid (rplace_any x h (by omega))
  have HN := Lib.hid h
  have HR := Lib.hid hR
  have HML := Lib.hid (And.intro hml hn)
  have HL := Lib.hid (And.intro hl hl2)
  have hl64 : r.nums.length ≤ 2000000 := hn
  have hm64 : r.msgs.length ≤ 2000000 := by omega
  generalize hQ : ROpMade B R u gv (dupQ r x).1 (dupQ r x).2.1 (dupQ r x).2.2 w = Q at *
  clear hQ h hR hn hl hl2
  cases hp : placeN r.nums x with
  | none =>
    have HQ := Lib.hid (HF.out 0 14 r (dupQ_none hp))
    rw [hp] at HPL
    unfold optI at HPL
    clear hp hml
    go_enter Try.func50, Try.ntmps50
    go_wp2_with fail
    refine HPL.out.mono ?_
    rintro e w' ⟨rfl, rfl⟩
    go_wp2_with fail
    exact HQ.out _ _ rfl ⟨_, _, HN.out⟩ (Kept.refl _ _)
  | some i =>
  have HI := Lib.hid (placeN_some hp)
  have hi0 : (0 : Int) ≤ (i : Int) := by omega
  have hi1 : (i : Int) < r.msgs.length := by have := HI.out; omega
  have n0 : decide ((i : Int) < 0) = false := decide_eq_false (by omega)
  rw [hp] at HPL
  unfold optI at HPL
  have HP := Lib.hid hp
  clear hp hml
  by_cases hf : r.limit ≤ (r.nums.length : Int)
  · have HQ := Lib.hid (HF.out 0 7 r (dupQ_full HP.out hf))
    have c1 : decide (r.limit ≤ (r.nums.length : Int)) = true := decide_eq_true hf
    clear hf
    go_enter Try.func50, Try.ntmps50
    go_wp2_with fail
    refine HPL.out.mono ?_
    rintro e w' ⟨rfl, rfl⟩
    go_upto_region 4 with fail
    refine region_left [.is (.pointer (some ⟨u, 0, none⟩)), .is (.pointer (some ⟨u, 0, none⟩)), .is (.pointer (some ⟨u, 1, none⟩)), .is (.slice na r.nums.length nc), .is (.int .i64 (r.nums.length : Nat)), .is (.pointer (some ⟨u, 0, none⟩)), .is (.pointer (some ⟨u, 0, none⟩)), .is (.pointer (some ⟨u, 0, none⟩)), .is (.int .i64 r.limit), .is (.bool true)] (by kernel_rfl) rfl (by kernel_rfl) (by kernel_rfl) (.cons ?s_0 (.cons ?s_1 (.cons ?s_2 (.cons ?s_3 (.cons ?s_4 (.cons ?s_5 (.cons ?s_6 (.cons ?s_7 (.cons ?s_8 (.cons ?s_9 .nil)))))))))) ?s_fin
    case s_0 =>
      intro wq hbw st  K hK
      simp only [Act.put, List.setIfInBounds_toArray, List.set_cons_zero, List.set_cons_succ] at hK ⊢
      unfold opStep
      rw [if_pos (by rfl)]
      go_simp
      exact hK.out _ _ (Below.refl _ _) rfl _ rfl
    case s_1 =>
      intro wq hbw st  K hK
      simp only [Act.put, List.setIfInBounds_toArray, List.set_cons_zero, List.set_cons_succ] at hK ⊢
      unfold opStep
      rw [if_pos (by rfl)]
      go_simp
      exact hK.out _ _ (Below.refl _ _) rfl _ rfl
    case s_2 =>
      intro wq hbw st  K hK
      simp only [Act.put, List.setIfInBounds_toArray, List.set_cons_zero, List.set_cons_succ] at hK ⊢
      unfold opStep
      rw [if_pos (by rfl)]
      go_simp
      exact hK.out _ _ (Below.refl _ _) rfl _ rfl
    case s_3 =>
      intro wq hbw st  K hK
      simp only [Act.put, List.setIfInBounds_toArray, List.set_cons_zero, List.set_cons_succ] at hK ⊢
      unfold opStep
      rw [if_pos (by rfl)]
      have d1 : wq.cell? ⟨u, 1, none⟩ = some (.slice na r.nums.length nc) := (HN.out.on hbw).box.cell 1
      go_simp
      exact hK.out _ _ (Below.refl _ _) rfl _ rfl
    case s_4 =>
      intro wq hbw st  K hK
      simp only [Act.put, List.setIfInBounds_toArray, List.set_cons_zero, List.set_cons_succ] at hK ⊢
      unfold opStep
      rw [if_pos (by rfl)]
      go_simp
      exact hK.out _ _ (Below.refl _ _) rfl _ rfl
    case s_5 =>
      intro wq hbw st  K hK
      simp only [Act.put, List.setIfInBounds_toArray, List.set_cons_zero, List.set_cons_succ] at hK ⊢
      unfold opStep
      rw [if_pos (by rfl)]
      go_simp
      exact hK.out _ _ (Below.refl _ _) rfl _ rfl
    case s_6 =>
      intro wq hbw st  K hK
      simp only [Act.put, List.setIfInBounds_toArray, List.set_cons_zero, List.set_cons_succ] at hK ⊢
      unfold opStep
      rw [if_pos (by rfl)]
      go_simp
      exact hK.out _ _ (Below.refl _ _) rfl _ rfl
    case s_7 =>
      intro wq hbw st  K hK
      simp only [Act.put, List.setIfInBounds_toArray, List.set_cons_zero, List.set_cons_succ] at hK ⊢
      unfold opStep
      rw [if_pos (by rfl)]
      go_simp
      exact hK.out _ _ (Below.refl _ _) rfl _ rfl
    case s_8 =>
      intro wq hbw st  K hK
      simp only [Act.put, List.setIfInBounds_toArray, List.set_cons_zero, List.set_cons_succ] at hK ⊢
      unfold opStep
      rw [if_pos (by rfl)]
      have d0 : wq.cell? ⟨u, 0, none⟩ = some (.int .i64 r.limit) := (HN.out.on hbw).box.cell 0
      go_simp
      exact hK.out _ _ (Below.refl _ _) rfl _ rfl
    case s_9 =>
      intro wq hbw st  K hK
      simp only [Act.put, List.setIfInBounds_toArray, List.set_cons_zero, List.set_cons_succ] at hK ⊢
      unfold opStep
      rw [if_pos (by rfl)]
      go_simp
      exact hK.out _ _ (Below.refl _ _) rfl _ rfl
    case s_fin =>
      intro wq hbw
      try simp only [FinAll]
      simp only [Act.put, List.setIfInBounds_toArray, List.set_cons_zero, List.set_cons_succ]
      go_wp2_with fail
      exact HQ.out _ _ rfl ⟨_, _, HN.out.on hbw⟩ (Kept.of hbw)
  · have HQ := Lib.hid (HF.out _ 0 _ (dupQ_put HP.out hf))
    have c1 : decide (r.limit ≤ (r.nums.length : Int)) = false := decide_eq_false hf
    clear hf
    go_enter Try.func50, Try.ntmps50
    go_wp2_with fail
    refine HPL.out.mono ?_
    rintro e w' ⟨rfl, rfl⟩
    go_upto_region 4 with fail
    refine region_left [.is (.pointer (some ⟨u, 0, none⟩)), .is (.pointer (some ⟨u, 0, none⟩)), .is (.pointer (some ⟨u, 1, none⟩)), .is (.slice na r.nums.length nc), .is (.int .i64 (r.nums.length : Nat)), .is (.pointer (some ⟨u, 0, none⟩)), .is (.pointer (some ⟨u, 0, none⟩)), .is (.pointer (some ⟨u, 0, none⟩)), .is (.int .i64 r.limit), .is (.bool false)] (by kernel_rfl) rfl (by kernel_rfl) (by kernel_rfl) (.cons ?s_0 (.cons ?s_1 (.cons ?s_2 (.cons ?s_3 (.cons ?s_4 (.cons ?s_5 (.cons ?s_6 (.cons ?s_7 (.cons ?s_8 (.cons ?s_9 .nil)))))))))) ?s_fin
    case s_0 =>
      intro wq hbw st  K hK
      simp only [Act.put, List.setIfInBounds_toArray, List.set_cons_zero, List.set_cons_succ] at hK ⊢
      unfold opStep
      rw [if_pos (by rfl)]
      go_simp
      exact hK.out _ _ (Below.refl _ _) rfl _ rfl
    case s_1 =>
      intro wq hbw st  K hK
      simp only [Act.put, List.setIfInBounds_toArray, List.set_cons_zero, List.set_cons_succ] at hK ⊢
      unfold opStep
      rw [if_pos (by rfl)]
      go_simp
      exact hK.out _ _ (Below.refl _ _) rfl _ rfl
    case s_2 =>
      intro wq hbw st  K hK
      simp only [Act.put, List.setIfInBounds_toArray, List.set_cons_zero, List.set_cons_succ] at hK ⊢
      unfold opStep
      rw [if_pos (by rfl)]
      go_simp
      exact hK.out _ _ (Below.refl _ _) rfl _ rfl
    case s_3 =>
      intro wq hbw st  K hK
      simp only [Act.put, List.setIfInBounds_toArray, List.set_cons_zero, List.set_cons_succ] at hK ⊢
      unfold opStep
      rw [if_pos (by rfl)]
      have d1 : wq.cell? ⟨u, 1, none⟩ = some (.slice na r.nums.length nc) := (HN.out.on hbw).box.cell 1
      go_simp
      exact hK.out _ _ (Below.refl _ _) rfl _ rfl
    case s_4 =>
      intro wq hbw st  K hK
      simp only [Act.put, List.setIfInBounds_toArray, List.set_cons_zero, List.set_cons_succ] at hK ⊢
      unfold opStep
      rw [if_pos (by rfl)]
      go_simp
      exact hK.out _ _ (Below.refl _ _) rfl _ rfl
    case s_5 =>
      intro wq hbw st  K hK
      simp only [Act.put, List.setIfInBounds_toArray, List.set_cons_zero, List.set_cons_succ] at hK ⊢
      unfold opStep
      rw [if_pos (by rfl)]
      go_simp
      exact hK.out _ _ (Below.refl _ _) rfl _ rfl
    case s_6 =>
      intro wq hbw st  K hK
      simp only [Act.put, List.setIfInBounds_toArray, List.set_cons_zero, List.set_cons_succ] at hK ⊢
      unfold opStep
      rw [if_pos (by rfl)]
      go_simp
      exact hK.out _ _ (Below.refl _ _) rfl _ rfl
    case s_7 =>
      intro wq hbw st  K hK
      simp only [Act.put, List.setIfInBounds_toArray, List.set_cons_zero, List.set_cons_succ] at hK ⊢
      unfold opStep
      rw [if_pos (by rfl)]
      go_simp
      exact hK.out _ _ (Below.refl _ _) rfl _ rfl
    case s_8 =>
      intro wq hbw st  K hK
      simp only [Act.put, List.setIfInBounds_toArray, List.set_cons_zero, List.set_cons_succ] at hK ⊢
      unfold opStep
      rw [if_pos (by rfl)]
      have d0 : wq.cell? ⟨u, 0, none⟩ = some (.int .i64 r.limit) := (HN.out.on hbw).box.cell 0
      go_simp
      exact hK.out _ _ (Below.refl _ _) rfl _ rfl
    case s_9 =>
      intro wq hbw st  K hK
      simp only [Act.put, List.setIfInBounds_toArray, List.set_cons_zero, List.set_cons_succ] at hK ⊢
      unfold opStep
      rw [if_pos (by rfl)]
      go_simp
      exact hK.out _ _ (Below.refl _ _) rfl _ rfl
    case s_fin =>
      intro wq hbw
      try simp only [FinAll]
      simp only [Act.put, List.setIfInBounds_toArray, List.set_cons_zero, List.set_cons_succ]
      have HN2 := Lib.hid (HN.out.on hbw)
      have HB2 : Hid (Kept R _ wq) := Lib.hid (Kept.of hbw)
      clear hbw HN
      rename World => w2
      have hwr : IntKind.i64.wrap (r.d1 + 1) = r.d1 + 1 := IntWalk.i64_in _ (by omega)
      have HBU : Hid (B ≤ u) := Lib.hid (HN2.out.parts.rb u HN2.out.parts.ru)
      have HBL : Hid (B ≤ w2.heap.size) := Lib.hid HN2.out.parts.bw
      go_upto_region 6 with fail
      refine region_inv B (JS [[0, 1, 2, 3, 4, 5, 8]] [9] (IncW w2 u 7 (.int .i64 (r.d1 + 1)))) [some (.pointer (some ⟨u, 0, none⟩)), some (.pointer (some ⟨u, 0, none⟩)), some (.pointer (some ⟨u, 6, none⟩)), some (.pointer (some ⟨u, 7, none⟩)), some (.int .i64 r.d1), some (.int .i64 (r.d1 + 1)), some (.pointer (some ⟨u, 0, none⟩)), some (.pointer (some ⟨u, 6, none⟩)), some (.pointer (some ⟨u, 7, none⟩)), some (undef)] (by kernel_rfl) rfl (by kernel_rfl) (by kernel_rfl) (fun st => JS.start (fun _ => ⟨rfl, rfl, rfl, Nat.le_refl _, fun _ _ => rfl⟩) st) (.cons ?i_0 (.cons ?i_1 (.cons ?i_2 (.cons ?i_3 (.cons ?i_4 (.cons ?i_5 (.cons ?i_6 (.cons ?i_7 (.cons ?i_8 (.cons ?i_9 .nil)))))))))) ?i_fin
      case i_0 =>
        intro wq hbw D st hJ hD hdp K hK
        simp only [Act.put, List.setIfInBounds_toArray, List.set_cons_zero, List.set_cons_succ] at hK ⊢
        unfold opStep
        rw [if_pos (by rfl)]
        go_simp
        exact hK.out _ _ (Below.refl _ _) (fun u hu => Option.some.inj hu) (hJ.pure 0 _ (by rfl)) _ rfl
      case i_1 =>
        intro wq hbw D st hJ hD hdp K hK
        simp only [Act.put, List.setIfInBounds_toArray, List.set_cons_zero, List.set_cons_succ] at hK ⊢
        unfold opStep
        rw [if_pos (by rfl)]
        go_simp
        exact hK.out _ _ (Below.refl _ _) (fun u hu => Option.some.inj hu) (hJ.pure 1 _ (by rfl)) _ rfl
      case i_2 =>
        intro wq hbw D st hJ hD hdp K hK
        simp only [Act.put, List.setIfInBounds_toArray, List.set_cons_zero, List.set_cons_succ] at hK ⊢
        unfold opStep
        rw [if_pos (by rfl)]
        go_simp
        exact hK.out _ _ (Below.refl _ _) (fun u hu => Option.some.inj hu) (hJ.pure 2 _ (by rfl)) _ rfl
      case i_3 =>
        intro wq hbw D st hJ hD hdp K hK
        simp only [Act.put, List.setIfInBounds_toArray, List.set_cons_zero, List.set_cons_succ] at hK ⊢
        unfold opStep
        rw [if_pos (by rfl)]
        go_simp
        exact hK.out _ _ (Below.refl _ _) (fun u hu => Option.some.inj hu) (hJ.pure 3 _ (by rfl)) _ rfl
      case i_4 =>
        intro wq hbw D st hJ hD hdp K hK
        simp only [Act.put, List.setIfInBounds_toArray, List.set_cons_zero, List.set_cons_succ] at hK ⊢
        unfold opStep
        rw [if_pos (by rfl)]
        obtain ⟨sg, hsg, hS⟩ := hJ.le 0 (i := 4) (by rfl) hD
        obtain rfl : sg = 0 := by omega
        have hS0 : Below w2.heap.size w2 wq := hS
        have d1 : wq.cell? ⟨u, 7, none⟩ = some (.int .i64 r.d1) := (HN2.out.on hS0).box.cell 7
        go_simp
        exact hK.out _ _ (Below.refl _ _) (fun u hu => Option.some.inj hu) (hJ.pure 4 _ (by rfl)) _ rfl
      case i_5 =>
        intro wq hbw D st hJ hD hdp K hK
        simp only [Act.put, List.setIfInBounds_toArray, List.set_cons_zero, List.set_cons_succ] at hK ⊢
        unfold opStep
        rw [if_pos (by rfl)]
        go_simp
        exact hK.out _ _ (Below.refl _ _) (fun u hu => Option.some.inj hu) (hJ.pure 5 _ (by rfl)) _ rfl
      case i_6 =>
        intro wq hbw D st hJ hD hdp K hK
        simp only [Act.put, List.setIfInBounds_toArray, List.set_cons_zero, List.set_cons_succ] at hK ⊢
        unfold opStep
        rw [if_pos (by rfl)]
        go_simp
        exact hK.out _ _ (Below.refl _ _) (fun u hu => Option.some.inj hu) (hJ.pure 6 _ (by rfl)) _ rfl
      case i_7 =>
        intro wq hbw D st hJ hD hdp K hK
        simp only [Act.put, List.setIfInBounds_toArray, List.set_cons_zero, List.set_cons_succ] at hK ⊢
        unfold opStep
        rw [if_pos (by rfl)]
        go_simp
        exact hK.out _ _ (Below.refl _ _) (fun u hu => Option.some.inj hu) (hJ.pure 7 _ (by rfl)) _ rfl
      case i_8 =>
        intro wq hbw D st hJ hD hdp K hK
        simp only [Act.put, List.setIfInBounds_toArray, List.set_cons_zero, List.set_cons_succ] at hK ⊢
        unfold opStep
        rw [if_pos (by rfl)]
        go_simp
        exact hK.out _ _ (Below.refl _ _) (fun u hu => Option.some.inj hu) (hJ.pure 8 _ (by rfl)) _ rfl
      case i_9 =>
        intro wq hbw D st hJ hD hdp K hK
        simp only [Act.put, List.setIfInBounds_toArray, List.set_cons_zero, List.set_cons_succ] at hK ⊢
        unfold opStep
        rw [if_pos (by rfl)]
        have hpv : ∀ k', 0 < 0 → ([9] : List Nat)[0 - 1]? = some k' → D k' = true := fun _ h => absurd h (Nat.lt_irrefl 0)
        have hdd : ∀ i ∈ ([[0, 1, 2, 3, 4, 5, 8]] : List (List Nat)).getD 0 [], D i = true := fun i hi => hdp i ((of_decide_eq_true (by kernel_rfl) : ∀ i ∈ ([[0, 1, 2, 3, 4, 5, 8]] : List (List Nat)).getD 0 [], i ∈ depsOf _) i hi)
        have hW := hJ.here 0 9 rfl hD hpv
        have hsz := Nat.le_trans HBL.out hbw.size
        have hW0 : Below w2.heap.size w2 wq := hW
        have d1 : wq.cell? ⟨u, 7, none⟩ = some (.int .i64 r.d1) := (HN2.out.on hW0).box.cell 7
        have f1 : wq.frozen? ⟨u, 7, none⟩ = false := (HN2.out.on hW0).box.frozen 7
        have z1 : u < wq.heap.size := (HN2.out.on hW0).box.lt
        go_simp
        exact hK.out _ _ ((Below.refl _ _).setCell (p := ⟨u, 7, none⟩) HBU.out _) (fun u hu => Option.some.inj hu) (hJ.step 0 9 _ rfl hD hpv hdd (of_decide_eq_true (by kernel_rfl)) ⟨wq, hW0, rfl⟩) _ rfl
      case i_fin =>
        intro wq hbw D st hall hJ
        simp only [FinAll, lfOf]
        simp only [Act.put, List.setIfInBounds_toArray, List.set_cons_zero, List.set_cons_succ]
        have hW := hJ.done (fun k hk => by simp at hk; subst hk; exact hall _ (by decide))
        clear hJ hall
        obtain ⟨w0, hb0, rfl⟩ := hW
        clear hbw
        have HN3 : Hid (RefAt B R u (.slice na r.nums.length nc) (.slice mz.1 r.msgs.length mz.2) gv { r with d1 := r.d1 + 1 } (w0.setCell ⟨u, 7, none⟩ (.int .i64 (r.d1 + 1)))) := Lib.hid ((HN2.out.on hb0).set 7 _ rfl rfl rfl rfl)
        have HK3 : Hid (Kept R w2 (w0.setCell ⟨u, 7, none⟩ (.int .i64 (r.d1 + 1)))) := Lib.hid ((Kept.of hb0).trans (Kept.set (S := R) (p := ⟨u, 7, none⟩) _ HN2.out.parts.ru))
        go_upto_region 7 with fail
        clear hb0
        generalize World.setCell w0 _ _ = w3 at HN3 HK3 ⊢
        have d2 : w3.cell? ⟨u, 2, none⟩ = some (.slice mz.1 r.msgs.length mz.2) := HN3.out.box.cell 2
        obtain ⟨kg, kcap, ks, hkv, hkg, hkr, hkm, hkl⟩ := HN3.out.msg (k := i) (by have := HML.out; have := HI.out; show i < r.msgs.length; omega)
        have HKR := Lib.hid (And.intro hkr hkl)
        have hkm' : CellsD (fun b => b < B) w3 ks (msgD (msgQ r i)) := hkm
        have HCL := Lib.hid (rput_any (msgQ r i) ks HN3.out (fun k hk => HR.out k (by have h1 := HK3.out.size; have h2 := HB2.out.size; omega)) hkm' HL.out.1 HL.out.2 HML.out.2 (by show r.msgs.length ≤ 2000000; have := HML.out; omega))
        injection hkv with e1 _ e3
        rw [e1] at d2
        clear hkr hkm hkm' hkl
        go_wp2_with (refine wpList_load_mid rfl 39 (.tmp 37) rfl kg (i * 15) rfl ks _ HKR.out.1 Try.underlying39 rfl (by rw [HKR.out.2]; kernel_rfl) ?_)
        refine HCL.out.mono ?_
        rintro e w4 ⟨rfl, h4, hk4⟩
        have H4 := Lib.hid (And.intro h4 hk4)
        clear h4 hk4 HCL
        go_wp2_with fail
        exact HQ.out _ _ rfl H4.out.1 (HB2.out.trans (HK3.out.trans H4.out.2))
end
end Go.Proofs.Ytmcdmcnbnnfhnaa
namespace Go.Proofs.Ytmcdmcnbnnfhnaa
open Go.RowKit
set_option maxRecDepth 100000

/-- A row made of the front of another one and of what stands behind an element: an empty row, two appends, the store. -/
def RemW (w1 : World) (e : TypeId) (size u c nx ny : Nat) (xs ys : List Value) : Nat → (Nat → Value) → World → Prop
  | 0, _, w => Below w1.heap.size w1 w
  | 1, v, w => Below w1.heap.size w1 w ∧ w.ownsRow w1.heap.size e size (v 0) 0 []
  | 2, v, w => Below w1.heap.size w1 w ∧ w.ownsRow w1.heap.size e size (v 1) nx xs
  | 3, v, w => Below w1.heap.size w1 w ∧ w.ownsRow w1.heap.size e size (v 2) (nx + ny) (xs ++ ys)
  | _, _, w => ∃ w0 v, Below w1.heap.size w1 w0 ∧ w0.ownsRow w1.heap.size e size v (nx + ny) (xs ++ ys) ∧ w = w0.setCell ⟨u, c, none⟩ v
section
variable {w1 w w' : World} {e : TypeId} {size u c nx ny s : Nat} {xs ys : List Value} {v : Nat → Value}
theorem RemW.bel (h : RemW w1 e size u c nx ny xs ys s v w) (hs : s ≤ 3) : Below w1.heap.size w1 w := by
  match s, hs with
  | 0, _ => exact h
  | 1, _ => exact h.1
  | 2, _ => exact h.1
  | 3, _ => exact h.1
theorem RemW.s0 (h : RemW w1 e size u c nx ny xs ys 0 v w) : RemW w1 e size u c nx ny xs ys 1 (upW v 0 (.slice (some ⟨w.heap.size, 0, none⟩) 0 0)) (w.alloc (.cells #[] e)) := by
  have hb : Below w1.heap.size w1 w := h
  exact ⟨hb.alloc hb.size _, World.ownsRow_made w #[] 0 hb.size (Nat.zero_le _) (by simp)⟩
theorem grown_above {v0 : Value} {n : Nat} {zs : List Value} (hb : Below w1.heap.size w1 w) (hr : w.ownsRow w1.heap.size e size v0 n zs) (hg : w.grownBy w' v0.ownBlock) : Below w1.heap.size w1 w' :=
  hb.trans (below_grown hg hb.size fun k e => (hr.lt k e).1)
theorem RemW.s1 (h : RemW w1 e size u c nx ny xs ys 1 v w) {v' : Value} (hrow : w'.ownsRow w1.heap.size e size v' (0 + nx) ([] ++ xs)) (hg : w.grownBy w' (v 0).ownBlock) : RemW w1 e size u c nx ny xs ys 2 (upW v 1 v') w' :=
  ⟨grown_above h.1 h.2 hg, by simpa [upW] using hrow⟩
theorem RemW.s2 (h : RemW w1 e size u c nx ny xs ys 2 v w) {v' : Value} (hrow : w'.ownsRow w1.heap.size e size v' (nx + ny) (xs ++ ys)) (hg : w.grownBy w' (v 1).ownBlock) : RemW w1 e size u c nx ny xs ys 3 (upW v 2 v') w' :=
  ⟨grown_above h.1 h.2 hg, by simpa [upW] using hrow⟩
theorem RemW.s3 (h : RemW w1 e size u c nx ny xs ys 3 v w) {v' : Nat → Value} : RemW w1 e size u c nx ny xs ys 4 v' (w.setCell ⟨u, c, none⟩ (v 2)) := ⟨w, v 2, h.1, h.2, rfl⟩
theorem vis_one {l : List Int} : ∀ u ∈ l.map vi, u.oneCell' = true := by
  intro u hu
  obtain ⟨x, _, rfl⟩ := List.mem_map.1 hu
  rfl
theorem addrO (g o j : Nat) : (⟨g, o, none⟩ : Addr).add j = ⟨g, o + j, none⟩ := by unfold Addr.add; split <;> simp_all
theorem row_front {B g n k c : Nat} {zs : List Value} (h : w.ownsRow B e size (.slice (some ⟨g, 0, none⟩) n c) n zs) : ∀ j u, (zs.take k)[j]? = some u → w.cell? ((⟨g, 0, none⟩ : Addr).add j) = some u := by
  intro j u hu
  rw [List.getElem?_take] at hu
  split at hu
  · exact h.cells (g := g) rfl j u hu
  · cases hu
theorem row_back {B g n k c : Nat} {zs : List Value} (h : w.ownsRow B e size (.slice (some ⟨g, 0, none⟩) n c) n zs) {ad : Addr} (had : k < n * size → ad = ⟨g, k, none⟩) : ∀ j u, (zs.drop k)[j]? = some u → w.cell? (ad.add j) = some u := by
  intro j u hu
  rw [List.getElem?_drop] at hu
  have hl : k + j < n * size := by have := (List.getElem?_eq_some_iff.1 hu).1; have := h.1; omega
  rw [had (by omega), addrO, ← addr0]
  exact h.cells (g := g) rfl _ _ hu
end
def RRemMade (B : Nat) (R : Nat → Prop) (u : Nat) (gv : Value) (r' : RefS) (w : World) (e : Ending) (w' : World) : Prop := e = .returned (.tuple #[]) ∧ (∃ nv' mv', RefAt B R u nv' mv' gv r' w') ∧ Kept R w w'
theorem ownK_on {w w' : World} {B K n : Nat} {T : TypeId} {v : Value} {xs : List Value} (h : w.ownsRow B T K v n xs) (hb : Below w.heap.size w w') : w'.ownsRow B T K v n xs := ownK_keep h fun g e => hb.block g (h.lt g e).2
section
variable {B u : Nat} {R : Nat → Prop} {nv mv gv : Value} {r : RefS} {w : World}
/-- The row of numbers is a new one. -/
theorem RefAt.newN (h : RefAt B R u nv mv gv r w) (hR : ∀ k, w.heap.size ≤ k → R k) {w0 : World} {v : Value} {nums : List Int} (hb : Below w.heap.size w w0) (hrow : w0.ownsRow w.heap.size 3 1 v nums.length (nums.map vi)) : RefAt B R u v mv gv { r with nums := nums } (w0.setCell ⟨u, 1, none⟩ v) :=
  ⟨(h.box.on hb).set_ 1 v, (h.parts.setN hR (Kept.of hb) (ownsRow_base hrow h.parts.bw) (.inr fun k e => (hrow.lt k e).1)).box 1 v⟩
theorem RefAt.newM (h : RefAt B R u nv mv gv r w) (hR : ∀ k, w.heap.size ≤ k → R k) {w0 : World} {v : Value} {msgs : List MsgM} {cells : List Value} (hb : Below w.heap.size w w0) (hrow : w0.ownsRow w.heap.size 39 15 v msgs.length cells) (hc : MsgRow B w0 cells msgs) : RefAt B R u nv v gv { r with msgs := msgs } (w0.setCell ⟨u, 2, none⟩ v) :=
  ⟨(h.box.on hb).set_ 2 v, (h.parts.setM hR (Kept.of hb) (KeptL.of (ownsRow_base hrow h.parts.bw) hc) (.inr fun k e => (hrow.lt k e).1)).box 2 v⟩
set_option maxHeartbeats 8000000
theorem rremove_any (i : Nat) (h : RefAt B R u nv mv gv r w) (hR : ∀ k, w.heap.size ≤ k → R k) (hi : i < r.nums.length) (hn : r.nums.length ≤ 2000000) (hml : r.msgs.length = r.nums.length) :
    Calls Try.prog 76 #[.pointer (some ⟨u, 0, none⟩), .int .i64 i] w (RRemMade B R u gv (remQ r i) w) := by
  have HF : Hid (∀ e w', e = .returned (.tuple #[]) → (∃ nv' mv', RefAt B R u nv' mv' gv (remQ r i) w') → Kept R w w' → RRemMade B R u gv (remQ r i) w e w') := Lib.hid fun _ _ h1 h2 h3 => ⟨h1, h2, h3⟩
  obtain ⟨na, nc, rfl⟩ := row_slc h.parts.nums
  obtain ⟨hcn, hcm⟩ := row_cap h.parts.nums
  unfold maxLen at hcm
  obtain ⟨ng, rfl, -, -⟩ := row_at h.parts.nums (by omega)
  obtain ⟨mg, mc, ks, rfl, -, -, -, -⟩ := h.msg (k := i) (by omega)
  have hmc := h.parts.msgs.row
  obtain ⟨cells, hrow, hcl⟩ := hmc
  have hcap := hrow.2
  obtain ⟨hdn, hdm⟩ : r.msgs.length ≤ mc ∧ mc ≤ maxLen := row_cap hrow
  clear hcap
  unfold maxLen at hdm
  have HROW := Lib.hid (And.intro hrow hcl)
  have HN := Lib.hid h
  have HR := Lib.hid hR
  have HML := Lib.hid (And.intro hml (And.intro hi hn))
  have HBU : Hid (B ≤ u ∧ R u) := Lib.hid ⟨h.parts.rb u h.parts.ru, h.parts.ru⟩
  have HBL : Hid (B ≤ w.heap.size) := Lib.hid h.parts.bw
  obtain ⟨p, hp⟩ : ∃ p, p = i + 1 := ⟨_, rfl⟩
  have HP := Lib.hid hp
  have HIP : Hid ((i : Int) + 1 = (p : Int)) := Lib.hid (by omega)
  have hi0 : (0 : Int) ≤ (i : Int) := by omega
  have hi1 : (i : Int) ≤ (nc : Int) := by omega
  have hi2 : (i : Int) ≤ (mc : Int) := by omega
  have hp0 : (0 : Int) ≤ (p : Int) := by omega
  have hp1 : (p : Int) ≤ (r.nums.length : Int) := by omega
  have hp2 : (p : Int) ≤ (r.msgs.length : Int) := by omega
  have hc1 : (r.nums.length : Int) ≤ (nc : Int) := by omega
  have hc2 : (r.msgs.length : Int) ≤ (mc : Int) := by omega
  have hl64 : (r.nums.length : Int) ≤ 2000000 := by omega
  have hm64 : (r.msgs.length : Int) ≤ 2000000 := by omega
  have hwr : IntKind.i64.wrap ((i : Int) + 1) = (p : Int) := (IntWalk.i64_in _ (by omega)).trans HIP.out
  have HLQ : Hid (p ≤ r.nums.length ∧ i ≤ r.nums.length ∧ i + (r.nums.length - p) = (remQ r i).nums.length ∧ i + (r.msgs.length - p) = (remQ r i).msgs.length) := Lib.hid ⟨by omega, by omega, by simp [remQ]; omega, by simp [remQ]; omega⟩
  obtain ⟨sa, hsa⟩ : ∃ sa : Option Addr, sa = (if nc = p then some ⟨ng, 0, none⟩ else some ⟨ng, p, none⟩) := ⟨_, rfl⟩
  obtain ⟨sad, hsad⟩ : ∃ sad : Addr, sa = some sad ∧ (p < r.nums.length → sad = ⟨ng, p, none⟩) := by
    rw [hsa]
    by_cases e : nc = p
    · rw [if_pos e]; exact ⟨_, rfl, fun h => by omega⟩
    · rw [if_neg e]; exact ⟨_, rfl, fun _ => rfl⟩
  have HSA := Lib.hid (And.intro hsa hsad)
  obtain ⟨ta, hta⟩ : ∃ ta : Option Addr, ta = (if mc = p then some ⟨mg, 0, none⟩ else some ⟨mg, p * 15, none⟩) := ⟨_, rfl⟩
  obtain ⟨tad, htad⟩ : ∃ tad : Addr, ta = some tad ∧ (p < r.msgs.length → tad = ⟨mg, p * 15, none⟩) := by
    rw [hta]
    by_cases e : mc = p
    · rw [if_pos e]; exact ⟨_, rfl, fun h => by omega⟩
    · rw [if_neg e]; exact ⟨_, rfl, fun _ => rfl⟩
  have HTA := Lib.hid (And.intro hta htad)
  generalize hQ : RRemMade B R u gv (remQ r i) w = Q at *
  clear hQ h hR hi hn hml hrow hcl hsa hsad hta htad hp hcn hcm hdn hdm
  go_enter Try.func76, Try.ntmps76
  go_upto_region 0 with fail
  refine region_inv B (JS [[], [1, 7], [8, 15], [0, 1, 2, 3, 4, 5, 6, 7, 8, 9, 10, 11, 12, 13, 14, 15, 16, 18]] [1, 8, 16, 19] (RemW w 3 1 u 1 i (r.nums.length - p) ((r.nums.map vi).take (i * 1)) ((r.nums.map vi).drop (p * 1)))) [some (.pointer (some ⟨u, 0, none⟩)), none, some (.pointer (some ⟨u, 0, none⟩)), some (.pointer (some ⟨u, 0, none⟩)), some (.pointer (some ⟨u, 1, none⟩)), some (.slice (some ⟨ng, 0, none⟩) r.nums.length nc), some (.int .i64 i), some (.slice (some ⟨ng, 0, none⟩) i nc), none, some (.pointer (some ⟨u, 0, none⟩)), some (.pointer (some ⟨u, 0, none⟩)), some (.pointer (some ⟨u, 1, none⟩)), some (.slice (some ⟨ng, 0, none⟩) r.nums.length nc), some (.int .i64 i), some (.int .i64 (p : Int)), some (.slice sa (r.nums.length - p) (nc - p)), none, some (.pointer (some ⟨u, 0, none⟩)), some (.pointer (some ⟨u, 1, none⟩)), some (undef)] (by kernel_rfl) rfl (by kernel_rfl) (by kernel_rfl) (fun st => JS.start (fun _ => ⟨rfl, rfl, rfl, Nat.le_refl _, fun _ _ => rfl⟩) st) (.cons ?n_0 (.cons ?n_1 (.cons ?n_2 (.cons ?n_3 (.cons ?n_4 (.cons ?n_5 (.cons ?n_6 (.cons ?n_7 (.cons ?n_8 (.cons ?n_9 (.cons ?n_10 (.cons ?n_11 (.cons ?n_12 (.cons ?n_13 (.cons ?n_14 (.cons ?n_15 (.cons ?n_16 (.cons ?n_17 (.cons ?n_18 (.cons ?n_19 .nil)))))))))))))))))))) ?n_fin
  case n_0 =>
    intro wq hbw D st hJ hD hdp K hK
    simp only [Act.put, List.setIfInBounds_toArray, List.set_cons_zero, List.set_cons_succ] at hK ⊢
    unfold opStep
    rw [if_pos (by rfl)]
    go_simp
    exact hK.out _ _ (Below.refl _ _) (fun u hu => Option.some.inj hu) (hJ.pure 0 _ (by rfl)) _ rfl
  case n_1 =>
    intro wq hbw D st hJ hD hdp K hK
    simp only [Act.put, List.setIfInBounds_toArray, List.set_cons_zero, List.set_cons_succ] at hK ⊢
    unfold opStep
    rw [if_pos (by rfl)]
    have hpv : ∀ k', 0 < 0 → ([1, 8, 16, 19] : List Nat)[0 - 1]? = some k' → D k' = true := fun _ h => absurd h (Nat.lt_irrefl 0)
    have hdd : ∀ i ∈ ([[], [1, 7], [8, 15], [0, 1, 2, 3, 4, 5, 6, 7, 8, 9, 10, 11, 12, 13, 14, 15, 16, 18]] : List (List Nat)).getD 0 [], D i = true := fun i hi => hdp i ((of_decide_eq_true (by kernel_rfl) : ∀ i ∈ ([[], [1, 7], [8, 15], [0, 1, 2, 3, 4, 5, 6, 7, 8, 9, 10, 11, 12, 13, 14, 15, 16, 18]] : List (List Nat)).getD 0 [], i ∈ depsOf _) i hi)
    have hW := hJ.here 0 1 rfl hD hpv
    have hsz := Nat.le_trans HBL.out hbw.size
    go_simp
    exact hK.out _ _ ((Below.refl _ _).alloc hsz _) (fun u hu => by cases hu) (hJ.step 0 1 _ rfl hD hpv hdd (of_decide_eq_true (by kernel_rfl)) (hW.s0)) _ rfl
  case n_2 =>
    intro wq hbw D st hJ hD hdp K hK
    simp only [Act.put, List.setIfInBounds_toArray, List.set_cons_zero, List.set_cons_succ] at hK ⊢
    unfold opStep
    rw [if_pos (by rfl)]
    go_simp
    exact hK.out _ _ (Below.refl _ _) (fun u hu => Option.some.inj hu) (hJ.pure 2 _ (by rfl)) _ rfl
  case n_3 =>
    intro wq hbw D st hJ hD hdp K hK
    simp only [Act.put, List.setIfInBounds_toArray, List.set_cons_zero, List.set_cons_succ] at hK ⊢
    unfold opStep
    rw [if_pos (by rfl)]
    go_simp
    exact hK.out _ _ (Below.refl _ _) (fun u hu => Option.some.inj hu) (hJ.pure 3 _ (by rfl)) _ rfl
  case n_4 =>
    intro wq hbw D st hJ hD hdp K hK
    simp only [Act.put, List.setIfInBounds_toArray, List.set_cons_zero, List.set_cons_succ] at hK ⊢
    unfold opStep
    rw [if_pos (by rfl)]
    go_simp
    exact hK.out _ _ (Below.refl _ _) (fun u hu => Option.some.inj hu) (hJ.pure 4 _ (by rfl)) _ rfl
  case n_5 =>
    intro wq hbw D st hJ hD hdp K hK
    simp only [Act.put, List.setIfInBounds_toArray, List.set_cons_zero, List.set_cons_succ] at hK ⊢
    unfold opStep
    rw [if_pos (by rfl)]
    obtain ⟨sg, hsg, hS⟩ := hJ.le 3 (i := 5) (by rfl) hD
    have hS1 := hS.bel hsg
    have d1 : wq.cell? ⟨u, 1, none⟩ = some (.slice (some ⟨ng, 0, none⟩) r.nums.length nc) := (HN.out.on hS1).box.cell 1
    go_simp
    exact hK.out _ _ (Below.refl _ _) (fun u hu => Option.some.inj hu) (hJ.pure 5 _ (by rfl)) _ rfl
  case n_6 =>
    intro wq hbw D st hJ hD hdp K hK
    simp only [Act.put, List.setIfInBounds_toArray, List.set_cons_zero, List.set_cons_succ] at hK ⊢
    unfold opStep
    rw [if_pos (by rfl)]
    go_simp
    exact hK.out _ _ (Below.refl _ _) (fun u hu => Option.some.inj hu) (hJ.pure 6 _ (by rfl)) _ rfl
  case n_7 =>
    intro wq hbw D st hJ hD hdp K hK
    simp only [Act.put, List.setIfInBounds_toArray, List.set_cons_zero, List.set_cons_succ] at hK ⊢
    unfold opStep
    rw [if_pos (by rfl)]
    go_simp
    exact hK.out _ _ (Below.refl _ _) (fun u hu => Option.some.inj hu) (hJ.pure 7 _ (by rfl)) _ rfl
  case n_8 =>
    intro wq hbw D st hJ hD hdp K hK
    simp only [Act.put, List.setIfInBounds_toArray, List.set_cons_zero, List.set_cons_succ] at hK ⊢
    unfold opStep
    rw [if_pos (by rfl)]
    have hpv : ∀ k', 0 < 1 → ([1, 8, 16, 19] : List Nat)[1 - 1]? = some k' → D k' = true := fun k' _ hk => by injection hk with hk; subst hk; exact hdp 1 (of_decide_eq_true (by kernel_rfl))
    have hdd : ∀ i ∈ ([[], [1, 7], [8, 15], [0, 1, 2, 3, 4, 5, 6, 7, 8, 9, 10, 11, 12, 13, 14, 15, 16, 18]] : List (List Nat)).getD 1 [], D i = true := fun i hi => hdp i ((of_decide_eq_true (by kernel_rfl) : ∀ i ∈ ([[], [1, 7], [8, 15], [0, 1, 2, 3, 4, 5, 6, 7, 8, 9, 10, 11, 12, 13, 14, 15, 16, 18]] : List (List Nat)).getD 1 [], i ∈ depsOf _) i hi)
    have hW := hJ.here 1 8 rfl hD hpv
    have hsz := Nat.le_trans HBL.out hbw.size
    have hB := hW.1
    have hsrc := row_front (k := i * 1) (ownK_on HN.out.parts.nums hB)
    refine wp_append_blk (.tmp 5) (.tmp 11) 59 rfl w.heap.size elemInt (st 1) 0 [] ⟨ng, 0, none⟩ i nc ((r.nums.map vi).take (i * 1)) rfl rfl (by have := HLQ.out; have := HML.out; rw [List.length_take, List.length_map]; omega) (hsrc) (fun u hu => vis_one u (List.mem_of_mem_take hu)) hW.2 (by have := HLQ.out; have := HML.out; unfold maxLen; omega) (by have := HLQ.out; have := HML.out; omega) hB.size ?_
    intro v5 w7 r5 g5 _
    have hs5 := hW.s1 r5 g5
    exact hK.out _ _ ((below_grown g5 hB.size fun k e => (hW.2.lt k e).1).mono HBL.out) (fun u hu => by cases hu) (hJ.step 1 8 _ rfl hD hpv hdd (of_decide_eq_true (by kernel_rfl)) hs5) _ rfl
  case n_9 =>
    intro wq hbw D st hJ hD hdp K hK
    simp only [Act.put, List.setIfInBounds_toArray, List.set_cons_zero, List.set_cons_succ] at hK ⊢
    unfold opStep
    rw [if_pos (by rfl)]
    go_simp
    exact hK.out _ _ (Below.refl _ _) (fun u hu => Option.some.inj hu) (hJ.pure 9 _ (by rfl)) _ rfl
  case n_10 =>
    intro wq hbw D st hJ hD hdp K hK
    simp only [Act.put, List.setIfInBounds_toArray, List.set_cons_zero, List.set_cons_succ] at hK ⊢
    unfold opStep
    rw [if_pos (by rfl)]
    go_simp
    exact hK.out _ _ (Below.refl _ _) (fun u hu => Option.some.inj hu) (hJ.pure 10 _ (by rfl)) _ rfl
  case n_11 =>
    intro wq hbw D st hJ hD hdp K hK
    simp only [Act.put, List.setIfInBounds_toArray, List.set_cons_zero, List.set_cons_succ] at hK ⊢
    unfold opStep
    rw [if_pos (by rfl)]
    go_simp
    exact hK.out _ _ (Below.refl _ _) (fun u hu => Option.some.inj hu) (hJ.pure 11 _ (by rfl)) _ rfl
  case n_12 =>
    intro wq hbw D st hJ hD hdp K hK
    simp only [Act.put, List.setIfInBounds_toArray, List.set_cons_zero, List.set_cons_succ] at hK ⊢
    unfold opStep
    rw [if_pos (by rfl)]
    obtain ⟨sg, hsg, hS⟩ := hJ.le 3 (i := 12) (by rfl) hD
    have hS1 := hS.bel hsg
    have d1 : wq.cell? ⟨u, 1, none⟩ = some (.slice (some ⟨ng, 0, none⟩) r.nums.length nc) := (HN.out.on hS1).box.cell 1
    go_simp
    exact hK.out _ _ (Below.refl _ _) (fun u hu => Option.some.inj hu) (hJ.pure 12 _ (by rfl)) _ rfl
  case n_13 =>
    intro wq hbw D st hJ hD hdp K hK
    simp only [Act.put, List.setIfInBounds_toArray, List.set_cons_zero, List.set_cons_succ] at hK ⊢
    unfold opStep
    rw [if_pos (by rfl)]
    go_simp
    exact hK.out _ _ (Below.refl _ _) (fun u hu => Option.some.inj hu) (hJ.pure 13 _ (by rfl)) _ rfl
  case n_14 =>
    intro wq hbw D st hJ hD hdp K hK
    simp only [Act.put, List.setIfInBounds_toArray, List.set_cons_zero, List.set_cons_succ] at hK ⊢
    unfold opStep
    rw [if_pos (by rfl)]
    go_simp
    exact hK.out _ _ (Below.refl _ _) (fun u hu => Option.some.inj hu) (hJ.pure 14 _ (by rfl)) _ rfl
  case n_15 =>
    intro wq hbw D st hJ hD hdp K hK
    simp only [Act.put, List.setIfInBounds_toArray, List.set_cons_zero, List.set_cons_succ] at hK ⊢
    unfold opStep
    rw [if_pos (by rfl)]
    go_simp
    rw [← HSA.out.1]
    exact hK.out _ _ (Below.refl _ _) (fun u hu => Option.some.inj hu) (hJ.pure 15 _ (by rfl)) _ rfl
  case n_16 =>
    intro wq hbw D st hJ hD hdp K hK
    simp only [Act.put, List.setIfInBounds_toArray, List.set_cons_zero, List.set_cons_succ] at hK ⊢
    unfold opStep
    rw [if_pos (by rfl)]
    have hpv : ∀ k', 0 < 2 → ([1, 8, 16, 19] : List Nat)[2 - 1]? = some k' → D k' = true := fun k' _ hk => by injection hk with hk; subst hk; exact hdp 8 (of_decide_eq_true (by kernel_rfl))
    have hdd : ∀ i ∈ ([[], [1, 7], [8, 15], [0, 1, 2, 3, 4, 5, 6, 7, 8, 9, 10, 11, 12, 13, 14, 15, 16, 18]] : List (List Nat)).getD 2 [], D i = true := fun i hi => hdp i ((of_decide_eq_true (by kernel_rfl) : ∀ i ∈ ([[], [1, 7], [8, 15], [0, 1, 2, 3, 4, 5, 6, 7, 8, 9, 10, 11, 12, 13, 14, 15, 16, 18]] : List (List Nat)).getD 2 [], i ∈ depsOf _) i hi)
    have hW := hJ.here 2 16 rfl hD hpv
    have hsz := Nat.le_trans HBL.out hbw.size
    have hB := hW.1
    have hsrc := row_back (k := p * 1) (ownK_on HN.out.parts.nums hB) (ad := sad) (fun hlt => (HSA.out.2.2 (by omega)).trans (by simp))
    refine wp_append_blk (.tmp 12) (.tmp 19) 59 rfl w.heap.size elemInt (st 8) i ((r.nums.map vi).take (i * 1)) sad (r.nums.length - p) (nc - p) ((r.nums.map vi).drop (p * 1)) rfl (congrArg (fun q => Value.slice q (r.nums.length - p) (nc - p)) HSA.out.2.1) (by have := HLQ.out; have := HML.out; rw [List.length_drop, List.length_map]; omega) (hsrc) (fun u hu => vis_one u (List.mem_of_mem_drop hu)) hW.2 (by have := HLQ.out; have := HML.out; unfold maxLen; omega) (by have := HLQ.out; have := HML.out; omega) hB.size ?_
    intro v5 w7 r5 g5 _
    have hs5 := hW.s2 r5 g5
    exact hK.out _ _ ((below_grown g5 hB.size fun k e => (hW.2.lt k e).1).mono HBL.out) (fun u hu => by cases hu) (hJ.step 2 16 _ rfl hD hpv hdd (of_decide_eq_true (by kernel_rfl)) hs5) _ rfl
  case n_17 =>
    intro wq hbw D st hJ hD hdp K hK
    simp only [Act.put, List.setIfInBounds_toArray, List.set_cons_zero, List.set_cons_succ] at hK ⊢
    unfold opStep
    rw [if_pos (by rfl)]
    go_simp
    exact hK.out _ _ (Below.refl _ _) (fun u hu => Option.some.inj hu) (hJ.pure 17 _ (by rfl)) _ rfl
  case n_18 =>
    intro wq hbw D st hJ hD hdp K hK
    simp only [Act.put, List.setIfInBounds_toArray, List.set_cons_zero, List.set_cons_succ] at hK ⊢
    unfold opStep
    rw [if_pos (by rfl)]
    go_simp
    exact hK.out _ _ (Below.refl _ _) (fun u hu => Option.some.inj hu) (hJ.pure 18 _ (by rfl)) _ rfl
  case n_19 =>
    intro wq hbw D st hJ hD hdp K hK
    simp only [Act.put, List.setIfInBounds_toArray, List.set_cons_zero, List.set_cons_succ] at hK ⊢
    unfold opStep
    rw [if_pos (by rfl)]
    have hpv : ∀ k', 0 < 3 → ([1, 8, 16, 19] : List Nat)[3 - 1]? = some k' → D k' = true := fun k' _ hk => by injection hk with hk; subst hk; exact hdp 16 (of_decide_eq_true (by kernel_rfl))
    have hdd : ∀ i ∈ ([[], [1, 7], [8, 15], [0, 1, 2, 3, 4, 5, 6, 7, 8, 9, 10, 11, 12, 13, 14, 15, 16, 18]] : List (List Nat)).getD 3 [], D i = true := fun i hi => hdp i ((of_decide_eq_true (by kernel_rfl) : ∀ i ∈ ([[], [1, 7], [8, 15], [0, 1, 2, 3, 4, 5, 6, 7, 8, 9, 10, 11, 12, 13, 14, 15, 16, 18]] : List (List Nat)).getD 3 [], i ∈ depsOf _) i hi)
    have hW := hJ.here 3 19 rfl hD hpv
    have hsz := Nat.le_trans HBL.out hbw.size
    have hB := hW.1
    obtain ⟨a5, c5, e5⟩ := row_slc hW.2
    have e10 : st 16 = .slice a5 (i + (r.nums.length - p)) c5 := e5
    have d1 : wq.cell? ⟨u, 1, none⟩ = some (.slice (some ⟨ng, 0, none⟩) r.nums.length nc) := (HN.out.on hB).box.cell 1
    have f1 : wq.frozen? ⟨u, 1, none⟩ = false := (HN.out.on hB).box.frozen 1
    have z1 : u < wq.heap.size := (HN.out.on hB).box.lt
    have hs5 := hW.s3 (v' := upW (valsOf [1, 8, 16, 19] st) 3 undef)
    rw [show valsOf [1, 8, 16, 19] st 2 = .slice a5 (i + (r.nums.length - p)) c5 from e10] at hs5
    rw [e10] at hK ⊢
    go_simp
    exact hK.out _ _ ((Below.refl _ _).setCell (p := ⟨u, 1, none⟩) HBU.out.1 _) (fun u hu => Option.some.inj hu) (hJ.step 3 19 _ rfl hD hpv hdd (of_decide_eq_true (by kernel_rfl)) hs5) _ rfl
  case n_fin =>
    intro wq hbw D st hall hJ
    simp only [FinAll, lfOf]
    simp only [Act.put, List.setIfInBounds_toArray, List.set_cons_zero, List.set_cons_succ]
    have hW := hJ.done (fun k hk => by simp at hk; rcases hk with rfl | rfl | rfl | rfl <;> exact hall _ (by decide))
    clear hJ hall
    generalize st 1 = z1
    generalize st 8 = z8
    generalize st 16 = z16
    obtain ⟨w0, v0, hb0, hr0, rfl⟩ := hW
    clear hbw
    have HN2 : Hid (RefAt B R u v0 (.slice (some ⟨mg, 0, none⟩) r.msgs.length mc) gv { r with nums := (remQ r i).nums } (w0.setCell ⟨u, 1, none⟩ v0) ∧ Kept R w (w0.setCell ⟨u, 1, none⟩ v0)) := Lib.hid ⟨HN.out.newN HR.out hb0 (by
      have h1 : (r.nums.map vi).take (i * 1) ++ (r.nums.map vi).drop (p * 1) = (remQ r i).nums.map vi := by rw [HP.out]; simp [remQ, List.map_take, List.map_drop]
      rw [h1, HLQ.out.2.2.1] at hr0
      exact hr0), (Kept.of hb0).trans (Kept.set (S := R) (p := ⟨u, 1, none⟩) _ HBU.out.2)⟩
    have HROW2 : Hid ((w0.setCell ⟨u, 1, none⟩ v0).ownsRow B 39 15 (.slice (some ⟨mg, 0, none⟩) r.msgs.length mc) r.msgs.length cells ∧ MsgRow B (w0.setCell ⟨u, 1, none⟩ v0) cells r.msgs) := Lib.hid (by
      have hk := HN2.out.2
      exact ⟨ownK_keep (ownK_on HROW.out.1 hb0) fun g e => Below.heap_setCell w0 _ _ g (fun e' => (HN.out.parts.rm g e).2.1 e'), HROW.out.2.keep hk.size fun b hb hlt => hk.block b hlt fun e => by have := HN.out.parts.rb b e; omega⟩)
    have HR2 : Hid (∀ k, (w0.setCell ⟨u, 1, none⟩ v0).heap.size ≤ k → R k) := Lib.hid fun k hk => HR.out k (Nat.le_trans HN2.out.2.size hk)
    have HBL2 : Hid (B ≤ (w0.setCell ⟨u, 1, none⟩ v0).heap.size) := Lib.hid (Nat.le_trans HBL.out HN2.out.2.size)
    clear hb0 hr0
    go_upto_region 1 with fail
    generalize World.setCell w0 _ _ = w2 at HN2 HROW2 HR2 HBL2 ⊢
    refine region_inv B (JS [[], [1, 7], [8, 15], [0, 1, 2, 3, 4, 5, 6, 7, 8, 9, 10, 11, 12, 13, 14, 15, 16, 18]] [1, 8, 16, 19] (RemW w2 39 15 u 2 i (r.msgs.length - p) (cells.take (i * 15)) (cells.drop (p * 15)))) [some (.pointer (some ⟨u, 0, none⟩)), none, some (.pointer (some ⟨u, 0, none⟩)), some (.pointer (some ⟨u, 0, none⟩)), some (.pointer (some ⟨u, 2, none⟩)), some (.slice (some ⟨mg, 0, none⟩) r.msgs.length mc), some (.int .i64 i), some (.slice (some ⟨mg, 0, none⟩) i mc), none, some (.pointer (some ⟨u, 0, none⟩)), some (.pointer (some ⟨u, 0, none⟩)), some (.pointer (some ⟨u, 2, none⟩)), some (.slice (some ⟨mg, 0, none⟩) r.msgs.length mc), some (.int .i64 i), some (.int .i64 (p : Int)), some (.slice ta (r.msgs.length - p) (mc - p)), none, some (.pointer (some ⟨u, 0, none⟩)), some (.pointer (some ⟨u, 2, none⟩)), some (undef)] (by kernel_rfl) rfl (by kernel_rfl) (by kernel_rfl) (fun st => JS.start (fun _ => ⟨rfl, rfl, rfl, Nat.le_refl _, fun _ _ => rfl⟩) st) (.cons ?m_0 (.cons ?m_1 (.cons ?m_2 (.cons ?m_3 (.cons ?m_4 (.cons ?m_5 (.cons ?m_6 (.cons ?m_7 (.cons ?m_8 (.cons ?m_9 (.cons ?m_10 (.cons ?m_11 (.cons ?m_12 (.cons ?m_13 (.cons ?m_14 (.cons ?m_15 (.cons ?m_16 (.cons ?m_17 (.cons ?m_18 (.cons ?m_19 .nil)))))))))))))))))))) ?m_fin
    case m_0 =>
      intro wq hbw D st hJ hD hdp K hK
      simp only [Act.put, List.setIfInBounds_toArray, List.set_cons_zero, List.set_cons_succ] at hK ⊢
      unfold opStep
      rw [if_pos (by rfl)]
      go_simp
      exact hK.out _ _ (Below.refl _ _) (fun u hu => Option.some.inj hu) (hJ.pure 0 _ (by rfl)) _ rfl
    case m_1 =>
      intro wq hbw D st hJ hD hdp K hK
      simp only [Act.put, List.setIfInBounds_toArray, List.set_cons_zero, List.set_cons_succ] at hK ⊢
      unfold opStep
      rw [if_pos (by rfl)]
      have hpv : ∀ k', 0 < 0 → ([1, 8, 16, 19] : List Nat)[0 - 1]? = some k' → D k' = true := fun _ h => absurd h (Nat.lt_irrefl 0)
      have hdd : ∀ i ∈ ([[], [1, 7], [8, 15], [0, 1, 2, 3, 4, 5, 6, 7, 8, 9, 10, 11, 12, 13, 14, 15, 16, 18]] : List (List Nat)).getD 0 [], D i = true := fun i hi => hdp i ((of_decide_eq_true (by kernel_rfl) : ∀ i ∈ ([[], [1, 7], [8, 15], [0, 1, 2, 3, 4, 5, 6, 7, 8, 9, 10, 11, 12, 13, 14, 15, 16, 18]] : List (List Nat)).getD 0 [], i ∈ depsOf _) i hi)
      have hW := hJ.here 0 1 rfl hD hpv
      have hsz := Nat.le_trans HBL2.out hbw.size
      go_simp
      exact hK.out _ _ ((Below.refl _ _).alloc hsz _) (fun u hu => by cases hu) (hJ.step 0 1 _ rfl hD hpv hdd (of_decide_eq_true (by kernel_rfl)) (hW.s0)) _ rfl
    case m_2 =>
      intro wq hbw D st hJ hD hdp K hK
      simp only [Act.put, List.setIfInBounds_toArray, List.set_cons_zero, List.set_cons_succ] at hK ⊢
      unfold opStep
      rw [if_pos (by rfl)]
      go_simp
      exact hK.out _ _ (Below.refl _ _) (fun u hu => Option.some.inj hu) (hJ.pure 2 _ (by rfl)) _ rfl
    case m_3 =>
      intro wq hbw D st hJ hD hdp K hK
      simp only [Act.put, List.setIfInBounds_toArray, List.set_cons_zero, List.set_cons_succ] at hK ⊢
      unfold opStep
      rw [if_pos (by rfl)]
      go_simp
      exact hK.out _ _ (Below.refl _ _) (fun u hu => Option.some.inj hu) (hJ.pure 3 _ (by rfl)) _ rfl
    case m_4 =>
      intro wq hbw D st hJ hD hdp K hK
      simp only [Act.put, List.setIfInBounds_toArray, List.set_cons_zero, List.set_cons_succ] at hK ⊢
      unfold opStep
      rw [if_pos (by rfl)]
      go_simp
      exact hK.out _ _ (Below.refl _ _) (fun u hu => Option.some.inj hu) (hJ.pure 4 _ (by rfl)) _ rfl
    case m_5 =>
      intro wq hbw D st hJ hD hdp K hK
      simp only [Act.put, List.setIfInBounds_toArray, List.set_cons_zero, List.set_cons_succ] at hK ⊢
      unfold opStep
      rw [if_pos (by rfl)]
      obtain ⟨sg, hsg, hS⟩ := hJ.le 3 (i := 5) (by rfl) hD
      have hS1 := hS.bel hsg
      have d1 : wq.cell? ⟨u, 2, none⟩ = some (.slice (some ⟨mg, 0, none⟩) r.msgs.length mc) := (HN2.out.1.on hS1).box.cell 2
      go_simp
      exact hK.out _ _ (Below.refl _ _) (fun u hu => Option.some.inj hu) (hJ.pure 5 _ (by rfl)) _ rfl
    case m_6 =>
      intro wq hbw D st hJ hD hdp K hK
      simp only [Act.put, List.setIfInBounds_toArray, List.set_cons_zero, List.set_cons_succ] at hK ⊢
      unfold opStep
      rw [if_pos (by rfl)]
      go_simp
      exact hK.out _ _ (Below.refl _ _) (fun u hu => Option.some.inj hu) (hJ.pure 6 _ (by rfl)) _ rfl
    case m_7 =>
      intro wq hbw D st hJ hD hdp K hK
      simp only [Act.put, List.setIfInBounds_toArray, List.set_cons_zero, List.set_cons_succ] at hK ⊢
      unfold opStep
      rw [if_pos (by rfl)]
      go_simp
      exact hK.out _ _ (Below.refl _ _) (fun u hu => Option.some.inj hu) (hJ.pure 7 _ (by rfl)) _ rfl
    case m_8 =>
      intro wq hbw D st hJ hD hdp K hK
      simp only [Act.put, List.setIfInBounds_toArray, List.set_cons_zero, List.set_cons_succ] at hK ⊢
      unfold opStep
      rw [if_pos (by rfl)]
      have hpv : ∀ k', 0 < 1 → ([1, 8, 16, 19] : List Nat)[1 - 1]? = some k' → D k' = true := fun k' _ hk => by injection hk with hk; subst hk; exact hdp 1 (of_decide_eq_true (by kernel_rfl))
      have hdd : ∀ i ∈ ([[], [1, 7], [8, 15], [0, 1, 2, 3, 4, 5, 6, 7, 8, 9, 10, 11, 12, 13, 14, 15, 16, 18]] : List (List Nat)).getD 1 [], D i = true := fun i hi => hdp i ((of_decide_eq_true (by kernel_rfl) : ∀ i ∈ ([[], [1, 7], [8, 15], [0, 1, 2, 3, 4, 5, 6, 7, 8, 9, 10, 11, 12, 13, 14, 15, 16, 18]] : List (List Nat)).getD 1 [], i ∈ depsOf _) i hi)
      have hW := hJ.here 1 8 rfl hD hpv
      have hsz := Nat.le_trans HBL2.out hbw.size
      have hB := hW.1
      have hsrc := row_front (k := i * 15) (ownK_on HROW2.out.1 hB)
      refine wp_append_blk (.tmp 24) (.tmp 30) 50 rfl w2.heap.size elemMsg (st 1) 0 [] ⟨mg, 0, none⟩ i mc (cells.take (i * 15)) rfl rfl (by have := HLQ.out; have := HML.out; have hc := HROW2.out.2.1; rw [List.length_take]; omega) (hsrc) (fun u hu => HROW2.out.2.one u (List.mem_of_mem_take hu)) hW.2 (by have := HLQ.out; have := HML.out; unfold maxLen; omega) (by have := HLQ.out; have := HML.out; omega) hB.size ?_
      intro v5 w7 r5 g5 _
      have hs5 := hW.s1 r5 g5
      exact hK.out _ _ ((below_grown g5 hB.size fun k e => (hW.2.lt k e).1).mono HBL2.out) (fun u hu => by cases hu) (hJ.step 1 8 _ rfl hD hpv hdd (of_decide_eq_true (by kernel_rfl)) hs5) _ rfl
    case m_9 =>
      intro wq hbw D st hJ hD hdp K hK
      simp only [Act.put, List.setIfInBounds_toArray, List.set_cons_zero, List.set_cons_succ] at hK ⊢
      unfold opStep
      rw [if_pos (by rfl)]
      go_simp
      exact hK.out _ _ (Below.refl _ _) (fun u hu => Option.some.inj hu) (hJ.pure 9 _ (by rfl)) _ rfl
    case m_10 =>
      intro wq hbw D st hJ hD hdp K hK
      simp only [Act.put, List.setIfInBounds_toArray, List.set_cons_zero, List.set_cons_succ] at hK ⊢
      unfold opStep
      rw [if_pos (by rfl)]
      go_simp
      exact hK.out _ _ (Below.refl _ _) (fun u hu => Option.some.inj hu) (hJ.pure 10 _ (by rfl)) _ rfl
    case m_11 =>
      intro wq hbw D st hJ hD hdp K hK
      simp only [Act.put, List.setIfInBounds_toArray, List.set_cons_zero, List.set_cons_succ] at hK ⊢
      unfold opStep
      rw [if_pos (by rfl)]
      go_simp
      exact hK.out _ _ (Below.refl _ _) (fun u hu => Option.some.inj hu) (hJ.pure 11 _ (by rfl)) _ rfl
    case m_12 =>
      intro wq hbw D st hJ hD hdp K hK
      simp only [Act.put, List.setIfInBounds_toArray, List.set_cons_zero, List.set_cons_succ] at hK ⊢
      unfold opStep
      rw [if_pos (by rfl)]
      obtain ⟨sg, hsg, hS⟩ := hJ.le 3 (i := 12) (by rfl) hD
      have hS1 := hS.bel hsg
      have d1 : wq.cell? ⟨u, 2, none⟩ = some (.slice (some ⟨mg, 0, none⟩) r.msgs.length mc) := (HN2.out.1.on hS1).box.cell 2
      go_simp
      exact hK.out _ _ (Below.refl _ _) (fun u hu => Option.some.inj hu) (hJ.pure 12 _ (by rfl)) _ rfl
    case m_13 =>
      intro wq hbw D st hJ hD hdp K hK
      simp only [Act.put, List.setIfInBounds_toArray, List.set_cons_zero, List.set_cons_succ] at hK ⊢
      unfold opStep
      rw [if_pos (by rfl)]
      go_simp
      exact hK.out _ _ (Below.refl _ _) (fun u hu => Option.some.inj hu) (hJ.pure 13 _ (by rfl)) _ rfl
    case m_14 =>
      intro wq hbw D st hJ hD hdp K hK
      simp only [Act.put, List.setIfInBounds_toArray, List.set_cons_zero, List.set_cons_succ] at hK ⊢
      unfold opStep
      rw [if_pos (by rfl)]
      go_simp
      exact hK.out _ _ (Below.refl _ _) (fun u hu => Option.some.inj hu) (hJ.pure 14 _ (by rfl)) _ rfl
    case m_15 =>
      intro wq hbw D st hJ hD hdp K hK
      simp only [Act.put, List.setIfInBounds_toArray, List.set_cons_zero, List.set_cons_succ] at hK ⊢
      unfold opStep
      rw [if_pos (by rfl)]
      go_simp
      rw [← HTA.out.1]
      exact hK.out _ _ (Below.refl _ _) (fun u hu => Option.some.inj hu) (hJ.pure 15 _ (by rfl)) _ rfl
    case m_16 =>
      intro wq hbw D st hJ hD hdp K hK
      simp only [Act.put, List.setIfInBounds_toArray, List.set_cons_zero, List.set_cons_succ] at hK ⊢
      unfold opStep
      rw [if_pos (by rfl)]
      have hpv : ∀ k', 0 < 2 → ([1, 8, 16, 19] : List Nat)[2 - 1]? = some k' → D k' = true := fun k' _ hk => by injection hk with hk; subst hk; exact hdp 8 (of_decide_eq_true (by kernel_rfl))
      have hdd : ∀ i ∈ ([[], [1, 7], [8, 15], [0, 1, 2, 3, 4, 5, 6, 7, 8, 9, 10, 11, 12, 13, 14, 15, 16, 18]] : List (List Nat)).getD 2 [], D i = true := fun i hi => hdp i ((of_decide_eq_true (by kernel_rfl) : ∀ i ∈ ([[], [1, 7], [8, 15], [0, 1, 2, 3, 4, 5, 6, 7, 8, 9, 10, 11, 12, 13, 14, 15, 16, 18]] : List (List Nat)).getD 2 [], i ∈ depsOf _) i hi)
      have hW := hJ.here 2 16 rfl hD hpv
      have hsz := Nat.le_trans HBL2.out hbw.size
      have hB := hW.1
      have hsrc := row_back (k := p * 15) (ownK_on HROW2.out.1 hB) (ad := tad) (fun hlt => (HTA.out.2.2 (by omega)).trans (by simp))
      refine wp_append_blk (.tmp 31) (.tmp 38) 50 rfl w2.heap.size elemMsg (st 8) i (cells.take (i * 15)) tad (r.msgs.length - p) (mc - p) (cells.drop (p * 15)) rfl (congrArg (fun q => Value.slice q (r.msgs.length - p) (mc - p)) HTA.out.2.1) (by have := HLQ.out; have := HML.out; have hc := HROW2.out.2.1; rw [List.length_drop]; omega) (hsrc) (fun u hu => HROW2.out.2.one u (List.mem_of_mem_drop hu)) hW.2 (by have := HLQ.out; have := HML.out; unfold maxLen; omega) (by have := HLQ.out; have := HML.out; omega) hB.size ?_
      intro v5 w7 r5 g5 _
      have hs5 := hW.s2 r5 g5
      exact hK.out _ _ ((below_grown g5 hB.size fun k e => (hW.2.lt k e).1).mono HBL2.out) (fun u hu => by cases hu) (hJ.step 2 16 _ rfl hD hpv hdd (of_decide_eq_true (by kernel_rfl)) hs5) _ rfl
    case m_17 =>
      intro wq hbw D st hJ hD hdp K hK
      simp only [Act.put, List.setIfInBounds_toArray, List.set_cons_zero, List.set_cons_succ] at hK ⊢
      unfold opStep
      rw [if_pos (by rfl)]
      go_simp
      exact hK.out _ _ (Below.refl _ _) (fun u hu => Option.some.inj hu) (hJ.pure 17 _ (by rfl)) _ rfl
    case m_18 =>
      intro wq hbw D st hJ hD hdp K hK
      simp only [Act.put, List.setIfInBounds_toArray, List.set_cons_zero, List.set_cons_succ] at hK ⊢
      unfold opStep
      rw [if_pos (by rfl)]
      go_simp
      exact hK.out _ _ (Below.refl _ _) (fun u hu => Option.some.inj hu) (hJ.pure 18 _ (by rfl)) _ rfl
    case m_19 =>
      intro wq hbw D st hJ hD hdp K hK
      simp only [Act.put, List.setIfInBounds_toArray, List.set_cons_zero, List.set_cons_succ] at hK ⊢
      unfold opStep
      rw [if_pos (by rfl)]
      have hpv : ∀ k', 0 < 3 → ([1, 8, 16, 19] : List Nat)[3 - 1]? = some k' → D k' = true := fun k' _ hk => by injection hk with hk; subst hk; exact hdp 16 (of_decide_eq_true (by kernel_rfl))
      have hdd : ∀ i ∈ ([[], [1, 7], [8, 15], [0, 1, 2, 3, 4, 5, 6, 7, 8, 9, 10, 11, 12, 13, 14, 15, 16, 18]] : List (List Nat)).getD 3 [], D i = true := fun i hi => hdp i ((of_decide_eq_true (by kernel_rfl) : ∀ i ∈ ([[], [1, 7], [8, 15], [0, 1, 2, 3, 4, 5, 6, 7, 8, 9, 10, 11, 12, 13, 14, 15, 16, 18]] : List (List Nat)).getD 3 [], i ∈ depsOf _) i hi)
      have hW := hJ.here 3 19 rfl hD hpv
      have hsz := Nat.le_trans HBL2.out hbw.size
      have hB := hW.1
      obtain ⟨a5, c5, e5⟩ := row_slc hW.2
      have e10 : st 16 = .slice a5 (i + (r.msgs.length - p)) c5 := e5
      have d1 : wq.cell? ⟨u, 2, none⟩ = some (.slice (some ⟨mg, 0, none⟩) r.msgs.length mc) := (HN2.out.1.on hB).box.cell 2
      have f1 : wq.frozen? ⟨u, 2, none⟩ = false := (HN2.out.1.on hB).box.frozen 2
      have z1 : u < wq.heap.size := (HN2.out.1.on hB).box.lt
      have hs5 := hW.s3 (v' := upW (valsOf [1, 8, 16, 19] st) 3 undef)
      rw [show valsOf [1, 8, 16, 19] st 2 = .slice a5 (i + (r.msgs.length - p)) c5 from e10] at hs5
      rw [e10] at hK ⊢
      go_simp
      exact hK.out _ _ ((Below.refl _ _).setCell (p := ⟨u, 2, none⟩) HBU.out.1 _) (fun u hu => Option.some.inj hu) (hJ.step 3 19 _ rfl hD hpv hdd (of_decide_eq_true (by kernel_rfl)) hs5) _ rfl
    case m_fin =>
      intro wq hbw D st hall hJ
      simp only [FinAll, lfOf]
      simp only [Act.put, List.setIfInBounds_toArray, List.set_cons_zero, List.set_cons_succ]
      have hW := hJ.done (fun k hk => by simp at hk; rcases hk with rfl | rfl | rfl | rfl <;> exact hall _ (by decide))
      clear hJ hall
      generalize st 1 = z1
      generalize st 8 = z8
      generalize st 16 = z16
      obtain ⟨w0, v0, hb0, hr0, rfl⟩ := hW
      clear hbw
      have HN3 : Hid (RefAt B R u _ v0 gv (remQ r i) (w0.setCell ⟨u, 2, none⟩ v0) ∧ Kept R w (w0.setCell ⟨u, 2, none⟩ v0)) := Lib.hid ⟨HN2.out.1.newM (msgs := (remQ r i).msgs) HR2.out hb0 (by
        rw [HLQ.out.2.2.2] at hr0
        exact hr0) (by
        have h1 := HROW2.out.2.keep hb0.size fun b _ hlt => hb0.block b hlt
        have h2 := (h1.take (i := i) (by have := HML.out; omega)).app (h1.drop (i := p) (by have := HML.out; have := HP.out; omega))
        rw [HP.out] at h2
        rw [HP.out]
        exact h2), HN2.out.2.trans ((Kept.of hb0).trans (Kept.set (S := R) (p := ⟨u, 2, none⟩) _ HBU.out.2))⟩
      clear hb0 hr0
      go_wp2
      go_end0
      exact HF.out _ _ rfl ⟨_, _, HN3.out.1⟩ HN3.out.2
end
end Go.Proofs.Ytmcdmcnbnnfhnaa
