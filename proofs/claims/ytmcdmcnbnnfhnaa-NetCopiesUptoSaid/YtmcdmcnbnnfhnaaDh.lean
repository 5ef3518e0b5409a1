/-
  Chapter 28: copies of certificates.
-/
import Derived.Test.YtmcdmcnbnnfhnaaDg
import Derived.Deep.Upon
namespace Go.Proofs.Ytmcdmcnbnnfhnaa
open Go.RowKit

theorem below_two2 (w : World) (o1 o2 : Obj) : Below w.heap.size w ((w.alloc o1).alloc o2) := ((Below.refl _ _).alloc (Nat.le_refl _) _).alloc (by simp) _
/-- A struct's copy by value. -/
def AggMade (W : World) (ds : List DV) (e : Ending) (w' : World) : Prop := ∃ cs, e = .returned (.agg cs.toArray) ∧ Below W.heap.size W w' ∧ CellsD (fun b => W.heap.size ≤ b) w' cs ds
/-- What a function on a boxed struct works on: the box and the box of its result. -/
structure BoxS (W wr : World) (T : TypeId) (cells zs : Array Value) : Prop where
  box : Blk wr W.heap.size T cells
  res : Blk wr (W.heap.size + 1) T zs
  bel : Below W.heap.size W wr
  sz : W.heap.size + 2 ≤ wr.heap.size
section
variable {W wr w' : World} {T : TypeId} {cells zs : Array Value}
theorem BoxS.on (h : BoxS W wr T cells zs) (hb : Below wr.heap.size wr w') : BoxS W w' T cells zs := ⟨h.box.on hb, h.res.on hb, h.bel.trans (hb.mono h.bel.size), Nat.le_trans h.sz hb.size⟩
theorem BoxS.set (h : BoxS W wr T cells zs) (i : Nat) (u : Value) : BoxS W (wr.setCell ⟨W.heap.size, i, none⟩ u) T (cells.setIfInBounds i u) zs :=
  ⟨h.box.set_ i u, h.res.far (p := ⟨W.heap.size, i, none⟩) (by show W.heap.size + 1 ≠ W.heap.size; omega) u, h.bel.setCell (p := ⟨W.heap.size, i, none⟩) (Nat.le_refl _) u, by simpa [World.setCell] using h.sz⟩
theorem BoxS.start (W : World) (T : TypeId) (cells zs : Array Value) : BoxS W ((W.alloc (.cells cells T)).alloc (.cells zs T)) T cells zs := by
  refine ⟨(Blk.new _ _ _).alloc _, ?_, below_two2 W _ _, by simp⟩
  have h := Blk.new (W.alloc (.cells cells T)) T zs
  rwa [World.size_alloc] at h
theorem BoxS.at (h : BoxS W wr T cells zs) {i : Nat} {u : Value} (hu : cells[i]? = some u) : wr.cell? ⟨W.heap.size, i, none⟩ = some u ∧ wr.frozen? ⟨W.heap.size, i, none⟩ = false ∧ W.heap.size < wr.heap.size := ⟨(h.box.cell i).trans hu, h.box.frozen i, h.box.lt⟩
end
/-- A whole block is stored: all other blocks stay. -/
theorem wpList_store_box {ops : Array Oper} {rest : List Oper} {op : Oper} {a : Act} {w : World} {Q : Exit → Act → World → Prop} (hgd : op.guard = none) (ty : TypeId) (x y : Operand) (ho : op.op = .store ty x y)
    (g : Nat) (t : TypeId) (old cells : Array Value) (hx : a.eval x = .pointer (some ⟨g, 0, none⟩)) (hy : a.eval y = .agg cells) (hB : Blk w g t old)
    (hi : (Try.prog.info? ty).map (·.size) = some cells.size) (hsz : old.size = cells.size) (h1 : cells.all (·.oneCell') = true)
    (h : ∀ w', Blk w' g t cells → Kept (fun b => b = g) w w' → wpList Try.prog ops Q rest (a.put op.dst undef) w') : wpList Try.prog ops Q (op :: rest) a w := by
  refine wpList_plain hgd fun _ hK => ?_
  unfold Oper.wp execOp
  simp only [ho, hx, hy, Instr.storeAt, Instr.sureAddr, Sem.run_bind, Sem.run_pure, Result.andThen_ok, run_storeVar_row w g t ty old cells hB hi hsz h1]
  refine hK _ _ (h _ (hB.setRow cells) ⟨rfl, rfl, rfl, by simp [World.setRow], fun k _ hk => ?_⟩)
  simp only [World.setRow, Array.getElem?_modify]
  rw [if_neg (fun e => hk e.symm)]
theorem ReadsD.setc {B g i : Nat} {w : World} {v u : Value} {d : DV} (h : ReadsD (fun b => B ≤ b) w v d) (hg : g < B) : ReadsD (fun b => B ≤ b) (w.setCell ⟨g, i, none⟩ u) v d := h.kept (S := fun b => b = g) (Kept.set _ rfl) fun b hb e => by omega
theorem cert_size : (Try.prog.info? 89).map (·.size) = some 9 := by kernel_rfl
set_option maxRecDepth 100000 in
set_option maxHeartbeats 4000000 in
theorem certificate_any {P : Nat → Prop} (c : CertM) (cs : List Value) (W : World) (h : CellsD P W cs (certD c)) : Calls Try.prog 62 #[.agg cs.toArray] W (AggMade W (certD c)) := by
  obtain ⟨v0, cs, rfl, r0, h⟩ := h.cons
  obtain ⟨v1, cs, rfl, r1, h⟩ := h.cons
  obtain ⟨v2, cs, rfl, r2, h⟩ := h.cons
  obtain ⟨v3, cs, rfl, r3, h⟩ := h.cons
  obtain ⟨v4, cs, rfl, r4, h⟩ := h.cons
  obtain ⟨v5, cs, rfl, r5, h⟩ := h.cons
  obtain ⟨v6, cs, rfl, r6, h⟩ := h.cons
  obtain ⟨v7, cs, rfl, r7, h⟩ := h.cons
  obtain ⟨v8, cs, rfl, r8, h⟩ := h.cons
  have hn := h.nil
  subst hn
  have e0 := r0.i
  have e1 := r1.i
  have e2 := r2.i
  have e6 := r6.i
  subst e0 e1 e2 e6
  have H3 := Lib.hid r3
  have H4 := Lib.hid r4
  have H5 := Lib.hid r5
  have H7 := Lib.hid r7
  have H8 := Lib.hid r8
  obtain ⟨a3, k3, rfl, -⟩ := ReadsD.slcM (f := ridD) r3
  obtain ⟨a4, k4, rfl, -⟩ := ReadsD.slcM (f := cmdD) r4
  obtain ⟨a5, k5, rfl, -⟩ := ReadsD.slcM (f := cmdD) r5
  obtain ⟨a7, k7, rfl, -⟩ := r7.bslc
  obtain ⟨a8, k8, rfl, -⟩ := ReadsD.slcM (f := ackD) r8
  clear r0 r1 r2 r3 r4 r5 r6 r7 r8 h
  have HFIN : Hid (∀ (w : World) (v3 v4 v5 v7 v8 : Value), ReadsD (fun b => W.heap.size + 2 ≤ b) w v3 (ridsD c.claim.reads) → ReadsD (fun b => W.heap.size + 2 ≤ b) w v4 (cmdsD c.claim.base) → ReadsD (fun b => W.heap.size + 2 ≤ b) w v5 (cmdsD c.claim.conf) → ReadsD (fun b => W.heap.size + 2 ≤ b) w v7 (bytesD c.claim.root) → ReadsD (fun b => W.heap.size + 2 ≤ b) w v8 (acksD c.acks) → CellsD (fun b => W.heap.size ≤ b) w [.int .i64 c.claim.r1, .int .i64 c.claim.r2, .int .i64 c.claim.r3, v3, v4, v5, .int .i64 c.claim.count, v7, v8] (certD c)) := Lib.hid fun w v3 v4 v5 v7 v8 h3 h4 h5 h7 h8 => by
    have hm : ∀ {v : Value} {d : DV}, ReadsD (fun b => W.heap.size + 2 ≤ b) w v d → ReadsD (fun b => W.heap.size ≤ b) w v d := fun h => h.mono fun b hb _ => by omega
    exact .mk (readsD_i _ _ _) (.mk (readsD_i _ _ _) (.mk (readsD_i _ _ _) (.mk (hm h3) (.mk (hm h4) (.mk (hm h5) (.mk (readsD_i _ _ _) (.mk (hm h7) (.mk (hm h8) .empty))))))))
  generalize c.claim.r1 = n1 at *
  generalize c.claim.r2 = n2 at *
  generalize c.claim.r3 = n3 at *
  generalize c.claim.count = n6 at *
  generalize c.claim.reads = l3 at *
  generalize c.claim.base = l4 at *
  generalize c.claim.conf = l5 at *
  generalize c.claim.root = l7 at *
  generalize c.acks = l8 at *
  generalize certD c = ds at *
  go_enter Try.func62, Try.ntmps62
  go_upto_region 1 with fail
  have HB0 := Lib.hid (BoxS.start W 89 #[.int .i64 n1, .int .i64 n2, .int .i64 n3, .slice a3 l3.length k3, .slice a4 l4.length k4, .slice a5 l5.length k5, .int .i64 n6, .slice a7 l7.length k7, .slice a8 l8.length k8] #[.int .i64 0, .int .i64 0, .int .i64 0, .slice none 0 0, .slice none 0 0, .slice none 0 0, .int .i64 0, .slice none 0 0, .slice none 0 0])
  generalize hw0 : World.alloc (World.alloc W _) _ = w0 at HB0 ⊢
  clear hw0
  have q0 := (HB0.out.at (i := 3) rfl).1
  have HCL := Lib.hid (reads_any _ l3 w0 (H3.out.on HB0.out.bel))
  go_wp2_with fail
  refine HCL.out.mono ?_
  rintro e x1 ⟨v, rfl, hb, hv⟩
  have HV := Lib.hid (hv.mono (P' := fun b => W.heap.size + 2 ≤ b) fun b hb _ => Nat.le_trans HB0.out.sz hb)
  obtain ⟨b3, j3, rfl, -⟩ := ReadsD.slcM (f := ridD) hv
  have HX := Lib.hid (HB0.out.on hb)
  obtain ⟨d0, f0, l0⟩ := HX.out.at (i := 3) rfl
  clear q0 HCL hb hv HB0
  go_upto_region 2 with fail
  have HB1 : Hid (BoxS W (World.setCell x1 ⟨W.heap.size, 3, none⟩ (.slice b3 l3.length j3)) 89 #[.int .i64 n1, .int .i64 n2, .int .i64 n3, .slice b3 l3.length j3, .slice a4 l4.length k4, .slice a5 l5.length k5, .int .i64 n6, .slice a7 l7.length k7, .slice a8 l8.length k8] #[.int .i64 0, .int .i64 0, .int .i64 0, .slice none 0 0, .slice none 0 0, .slice none 0 0, .int .i64 0, .slice none 0 0, .slice none 0 0]) := Lib.hid (HX.out.set 3 _)
  have D3 := Lib.hid (HV.out.setc (g := W.heap.size) (i := 3) (u := .slice b3 l3.length j3) (by omega))
  generalize hw : World.setCell x1 _ _ = w1 at *
  clear hw HX HV d0 f0 l0
  have q0 := (HB1.out.at (i := 4) rfl).1
  have HCL := Lib.hid (commands_any _ l4 w1 (H4.out.on HB1.out.bel))
  go_wp2_with fail
  refine HCL.out.mono ?_
  rintro e x2 ⟨v, rfl, hb, hv⟩
  have HV := Lib.hid (hv.mono (P' := fun b => W.heap.size + 2 ≤ b) fun b hb _ => Nat.le_trans HB1.out.sz hb)
  obtain ⟨b4, j4, rfl, -⟩ := ReadsD.slcM (f := cmdD) hv
  have HX := Lib.hid (HB1.out.on hb)
  replace D3 := Lib.hid (D3.out.on hb)
  obtain ⟨d0, f0, l0⟩ := HX.out.at (i := 4) rfl
  clear q0 HCL hb hv HB1
  go_upto_region 3 with fail
  have HB2 : Hid (BoxS W (World.setCell x2 ⟨W.heap.size, 4, none⟩ (.slice b4 l4.length j4)) 89 #[.int .i64 n1, .int .i64 n2, .int .i64 n3, .slice b3 l3.length j3, .slice b4 l4.length j4, .slice a5 l5.length k5, .int .i64 n6, .slice a7 l7.length k7, .slice a8 l8.length k8] #[.int .i64 0, .int .i64 0, .int .i64 0, .slice none 0 0, .slice none 0 0, .slice none 0 0, .int .i64 0, .slice none 0 0, .slice none 0 0]) := Lib.hid (HX.out.set 4 _)
  replace D3 := Lib.hid (D3.out.setc (g := W.heap.size) (i := 4) (u := .slice b4 l4.length j4) (by omega))
  have D4 := Lib.hid (HV.out.setc (g := W.heap.size) (i := 4) (u := .slice b4 l4.length j4) (by omega))
  generalize hw : World.setCell x2 _ _ = w2 at *
  clear hw HX HV d0 f0 l0
  have q0 := (HB2.out.at (i := 5) rfl).1
  have HCL := Lib.hid (commands_any _ l5 w2 (H5.out.on HB2.out.bel))
  go_wp2_with fail
  refine HCL.out.mono ?_
  rintro e x3 ⟨v, rfl, hb, hv⟩
  have HV := Lib.hid (hv.mono (P' := fun b => W.heap.size + 2 ≤ b) fun b hb _ => Nat.le_trans HB2.out.sz hb)
  obtain ⟨b5, j5, rfl, -⟩ := ReadsD.slcM (f := cmdD) hv
  have HX := Lib.hid (HB2.out.on hb)
  replace D3 := Lib.hid (D3.out.on hb)
  replace D4 := Lib.hid (D4.out.on hb)
  obtain ⟨d0, f0, l0⟩ := HX.out.at (i := 5) rfl
  clear q0 HCL hb hv HB2
  go_upto_region 4 with fail
  have HB3 : Hid (BoxS W (World.setCell x3 ⟨W.heap.size, 5, none⟩ (.slice b5 l5.length j5)) 89 #[.int .i64 n1, .int .i64 n2, .int .i64 n3, .slice b3 l3.length j3, .slice b4 l4.length j4, .slice b5 l5.length j5, .int .i64 n6, .slice a7 l7.length k7, .slice a8 l8.length k8] #[.int .i64 0, .int .i64 0, .int .i64 0, .slice none 0 0, .slice none 0 0, .slice none 0 0, .int .i64 0, .slice none 0 0, .slice none 0 0]) := Lib.hid (HX.out.set 5 _)
  replace D3 := Lib.hid (D3.out.setc (g := W.heap.size) (i := 5) (u := .slice b5 l5.length j5) (by omega))
  replace D4 := Lib.hid (D4.out.setc (g := W.heap.size) (i := 5) (u := .slice b5 l5.length j5) (by omega))
  have D5 := Lib.hid (HV.out.setc (g := W.heap.size) (i := 5) (u := .slice b5 l5.length j5) (by omega))
  generalize hw : World.setCell x3 _ _ = w3 at *
  clear hw HX HV d0 f0 l0
  have q0 := (HB3.out.at (i := 7) rfl).1
  have HCL := Lib.hid (bytes_any _ l7 w3 (H7.out.on HB3.out.bel))
  go_wp2_with fail
  refine HCL.out.mono ?_
  rintro e x4 ⟨v, rfl, hb, hv⟩
  have HV := Lib.hid (hv.mono (P' := fun b => W.heap.size + 2 ≤ b) fun b hb _ => Nat.le_trans HB3.out.sz hb)
  obtain ⟨b7, j7, rfl, -⟩ := hv.bslc
  have HX := Lib.hid (HB3.out.on hb)
  replace D3 := Lib.hid (D3.out.on hb)
  replace D4 := Lib.hid (D4.out.on hb)
  replace D5 := Lib.hid (D5.out.on hb)
  obtain ⟨d0, f0, l0⟩ := HX.out.at (i := 7) rfl
  clear q0 HCL hb hv HB3
  go_upto_region 5 with fail
  have HB4 : Hid (BoxS W (World.setCell x4 ⟨W.heap.size, 7, none⟩ (.slice b7 l7.length j7)) 89 #[.int .i64 n1, .int .i64 n2, .int .i64 n3, .slice b3 l3.length j3, .slice b4 l4.length j4, .slice b5 l5.length j5, .int .i64 n6, .slice b7 l7.length j7, .slice a8 l8.length k8] #[.int .i64 0, .int .i64 0, .int .i64 0, .slice none 0 0, .slice none 0 0, .slice none 0 0, .int .i64 0, .slice none 0 0, .slice none 0 0]) := Lib.hid (HX.out.set 7 _)
  replace D3 := Lib.hid (D3.out.setc (g := W.heap.size) (i := 7) (u := .slice b7 l7.length j7) (by omega))
  replace D4 := Lib.hid (D4.out.setc (g := W.heap.size) (i := 7) (u := .slice b7 l7.length j7) (by omega))
  replace D5 := Lib.hid (D5.out.setc (g := W.heap.size) (i := 7) (u := .slice b7 l7.length j7) (by omega))
  have D7 := Lib.hid (HV.out.setc (g := W.heap.size) (i := 7) (u := .slice b7 l7.length j7) (by omega))
  generalize hw : World.setCell x4 _ _ = w4 at *
  clear hw HX HV d0 f0 l0
  have q0 := (HB4.out.at (i := 8) rfl).1
  have HCL := Lib.hid (acks_any _ l8 w4 (H8.out.on HB4.out.bel))
  go_wp2_with fail
  refine HCL.out.mono ?_
  rintro e x5 ⟨v, rfl, hb, hv⟩
  have HV := Lib.hid (hv.mono (P' := fun b => W.heap.size + 2 ≤ b) fun b hb _ => Nat.le_trans HB4.out.sz hb)
  obtain ⟨b8, j8, rfl, -⟩ := ReadsD.slcM (f := ackD) hv
  have HX := Lib.hid (HB4.out.on hb)
  replace D3 := Lib.hid (D3.out.on hb)
  replace D4 := Lib.hid (D4.out.on hb)
  replace D5 := Lib.hid (D5.out.on hb)
  replace D7 := Lib.hid (D7.out.on hb)
  obtain ⟨d0, f0, l0⟩ := HX.out.at (i := 8) rfl
  clear q0 HCL hb hv HB4
  go_upto_region 6 with fail
  have HB5 : Hid (BoxS W (World.setCell x5 ⟨W.heap.size, 8, none⟩ (.slice b8 l8.length j8)) 89 #[.int .i64 n1, .int .i64 n2, .int .i64 n3, .slice b3 l3.length j3, .slice b4 l4.length j4, .slice b5 l5.length j5, .int .i64 n6, .slice b7 l7.length j7, .slice b8 l8.length j8] #[.int .i64 0, .int .i64 0, .int .i64 0, .slice none 0 0, .slice none 0 0, .slice none 0 0, .int .i64 0, .slice none 0 0, .slice none 0 0]) := Lib.hid (HX.out.set 8 _)
  replace D3 := Lib.hid (D3.out.setc (g := W.heap.size) (i := 8) (u := .slice b8 l8.length j8) (by omega))
  replace D4 := Lib.hid (D4.out.setc (g := W.heap.size) (i := 8) (u := .slice b8 l8.length j8) (by omega))
  replace D5 := Lib.hid (D5.out.setc (g := W.heap.size) (i := 8) (u := .slice b8 l8.length j8) (by omega))
  replace D7 := Lib.hid (D7.out.setc (g := W.heap.size) (i := 8) (u := .slice b8 l8.length j8) (by omega))
  have D8 := Lib.hid (HV.out.setc (g := W.heap.size) (i := 8) (u := .slice b8 l8.length j8) (by omega))
  generalize hw : World.setCell x5 _ _ = w5 at *
  clear hw HX HV d0 f0 l0
  have HONE : Hid ((#[.int .i64 n1, .int .i64 n2, .int .i64 n3, .slice b3 l3.length j3, .slice b4 l4.length j4, .slice b5 l5.length j5, .int .i64 n6, .slice b7 l7.length j7, .slice b8 l8.length j8] : Array Value).all (·.oneCell') = true) := Lib.hid (by simp [Value.oneCell'])
  have HRG := Lib.hid (Blk.range HB5.out.box)
  go_wp2_with (first | (refine wpList_load_mid rfl 89 (.tmp 1) rfl W.heap.size 0 rfl _ _ HRG.out Try.underlying89 rfl cert_size ?_) | (refine wpList_store_box rfl 89 (.tmp 2) (.tmp 31) rfl (W.heap.size + 1) 89 _ #[.int .i64 n1, .int .i64 n2, .int .i64 n3, .slice b3 l3.length j3, .slice b4 l4.length j4, .slice b5 l5.length j5, .int .i64 n6, .slice b7 l7.length j7, .slice b8 l8.length j8] rfl rfl HB5.out.res cert_size rfl HONE.out ?_))
  intro w9 hB9 hk9
  have HL := Lib.hid (run_loadVar_mid (P := Try.prog) w9 (W.heap.size + 1) 0 89 _ _ (Blk.range hB9) Try.underlying89 rfl cert_size)
  have HG : Hid (Below W.heap.size W w9) := Lib.hid (HB5.out.bel.trans (hk9.below HB5.out.bel.size fun k h e => by omega))
  have HM : ∀ {v : Value} {d : DV}, ReadsD (fun b => W.heap.size + 2 ≤ b) w5 v d → ReadsD (fun b => W.heap.size + 2 ≤ b) w9 v d := fun h => h.kept hk9 fun b hb e => by omega
  have HF := Lib.hid (HFIN.out w9 _ _ _ _ _ (HM D3.out) (HM D4.out) (HM D5.out) (HM D7.out) (HM D8.out))
  clear hk9 hB9 HM
  go_wp2
  refine bodyPost_ret (results_cell rfl rfl HL.out) rfl ⟨_, rfl, HG.out, HF.out⟩
end Go.Proofs.Ytmcdmcnbnnfhnaa
