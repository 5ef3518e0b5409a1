/-
  Chapter 28: equal messages are told equal (the reference).
-/
import Derived.Test.YtmcdmcnbnnfhnaaSi
namespace Go.Proofs.Ytmcdmcnbnnfhnaa
open Go.RowKit
attribute [local go_sem] run_eq_round
set_option maxRecDepth 100000 in
set_option maxHeartbeats 4000000 in
theorem same_message {P P' : Nat → Prop} (cs us : List Value) (a : MsgM) (w : World) (hv : CellsD P w cs (msgD a)) (hu : CellsD P' w us (msgD a)) : Calls Try.prog 14 #[.agg cs.toArray, .agg us.toArray] w (BoolMade w true) := by
  obtain ⟨v30, cs3, rfl, r30, qq30⟩ := CellsD.cons hv
  clear hv
  have e30 := r30.i
  subst e30
  clear r30
  obtain ⟨v31, cs3, rfl, r31, qq31⟩ := CellsD.cons qq30
  clear qq30
  have e31 := r31.i
  subst e31
  clear r31
  obtain ⟨v32, cs3, rfl, r32, qq32⟩ := CellsD.cons qq31
  clear qq31
  have e32 := r32.i
  subst e32
  clear r32
  obtain ⟨v33, cs3, rfl, r33, qq33⟩ := CellsD.cons qq32
  clear qq32
  have e33 := r33.i
  subst e33
  clear r33
  obtain ⟨v34, cs3, rfl, r34, qq34⟩ := CellsD.cons qq33
  clear qq33
  have e34 := r34.i
  subst e34
  clear r34
  obtain ⟨v35, cs3, rfl, r35, qq35⟩ := CellsD.cons qq34
  clear qq34
  have e35 := r35.i
  subst e35
  clear r35
  obtain ⟨v36, cs3, rfl, r36, qq36⟩ := CellsD.cons qq35
  clear qq35
  obtain ⟨s36, t36, rfl, -, -, -, hL36⟩ := ReadsD.slcM (f := ridD) r36
  obtain ⟨v37, cs3, rfl, r37, qq37⟩ := CellsD.cons qq36
  clear qq36
  obtain ⟨s37, t37, rfl, -, -, -, hL37⟩ := ReadsD.slcM (f := baseD) r37
  obtain ⟨v38, cs3, rfl, r38, qq38⟩ := CellsD.cons qq37
  clear qq37
  obtain ⟨s38, t38, rfl, -, -, -, hL38⟩ := ReadsD.slcM (f := cmdD) r38
  obtain ⟨v39, cs3, rfl, r39, qq39⟩ := CellsD.cons qq38
  clear qq38
  obtain ⟨s39, t39, rfl, -, -, -, hL39⟩ := ReadsD.slcM (f := ackD) r39
  obtain ⟨v310, cs3, rfl, r310, qq310⟩ := CellsD.cons qq39
  clear qq39
  obtain ⟨s310, t310, rfl, -, -, -, hL310⟩ := ReadsD.slcM (f := proofD) r310
  obtain ⟨v311, cs3, rfl, r311, qq311⟩ := CellsD.cons qq310
  clear qq310
  obtain ⟨s311, t311, rfl, -, -, -, hL311⟩ := ReadsD.slcM (f := digD) r311
  obtain ⟨v312, cs3, rfl, r312, qq312⟩ := CellsD.cons qq311
  clear qq311
  obtain ⟨s312, t312, rfl, -, -, -, hL312⟩ := ReadsD.slcM (f := fun s => [sD s]) r312
  obtain ⟨v313, cs3, rfl, r313, qq313⟩ := CellsD.cons qq312
  clear qq312
  have e313 := r313.i
  subst e313
  clear r313
  obtain ⟨v314, cs3, rfl, r314, qq314⟩ := CellsD.cons qq313
  clear qq313
  obtain ⟨s314, t314, rfl, -, -, -, hL314⟩ := ReadsD.slcM (f := itemD) r314
  have en3 := CellsD.nil qq314
  subst en3
  clear qq314
  obtain ⟨v40, cs4, rfl, r40, qq40⟩ := CellsD.cons hu
  clear hu
  have e40 := r40.i
  subst e40
  clear r40
  obtain ⟨v41, cs4, rfl, r41, qq41⟩ := CellsD.cons qq40
  clear qq40
  have e41 := r41.i
  subst e41
  clear r41
  obtain ⟨v42, cs4, rfl, r42, qq42⟩ := CellsD.cons qq41
  clear qq41
  have e42 := r42.i
  subst e42
  clear r42
  obtain ⟨v43, cs4, rfl, r43, qq43⟩ := CellsD.cons qq42
  clear qq42
  have e43 := r43.i
  subst e43
  clear r43
  obtain ⟨v44, cs4, rfl, r44, qq44⟩ := CellsD.cons qq43
  clear qq43
  have e44 := r44.i
  subst e44
  clear r44
  obtain ⟨v45, cs4, rfl, r45, qq45⟩ := CellsD.cons qq44
  clear qq44
  have e45 := r45.i
  subst e45
  clear r45
  obtain ⟨v46, cs4, rfl, r46, qq46⟩ := CellsD.cons qq45
  clear qq45
  obtain ⟨s46, t46, rfl, -, -, -, hL46⟩ := ReadsD.slcM (f := ridD) r46
  obtain ⟨v47, cs4, rfl, r47, qq47⟩ := CellsD.cons qq46
  clear qq46
  obtain ⟨s47, t47, rfl, -, -, -, hL47⟩ := ReadsD.slcM (f := baseD) r47
  obtain ⟨v48, cs4, rfl, r48, qq48⟩ := CellsD.cons qq47
  clear qq47
  obtain ⟨s48, t48, rfl, -, -, -, hL48⟩ := ReadsD.slcM (f := cmdD) r48
  obtain ⟨v49, cs4, rfl, r49, qq49⟩ := CellsD.cons qq48
  clear qq48
  obtain ⟨s49, t49, rfl, -, -, -, hL49⟩ := ReadsD.slcM (f := ackD) r49
  obtain ⟨v410, cs4, rfl, r410, qq410⟩ := CellsD.cons qq49
  clear qq49
  obtain ⟨s410, t410, rfl, -, -, -, hL410⟩ := ReadsD.slcM (f := proofD) r410
  obtain ⟨v411, cs4, rfl, r411, qq411⟩ := CellsD.cons qq410
  clear qq410
  obtain ⟨s411, t411, rfl, -, -, -, hL411⟩ := ReadsD.slcM (f := digD) r411
  obtain ⟨v412, cs4, rfl, r412, qq412⟩ := CellsD.cons qq411
  clear qq411
  obtain ⟨s412, t412, rfl, -, -, -, hL412⟩ := ReadsD.slcM (f := fun s => [sD s]) r412
  obtain ⟨v413, cs4, rfl, r413, qq413⟩ := CellsD.cons qq412
  clear qq412
  have e413 := r413.i
  subst e413
  clear r413
  obtain ⟨v414, cs4, rfl, r414, qq414⟩ := CellsD.cons qq413
  clear qq413
  obtain ⟨s414, t414, rfl, -, -, -, hL414⟩ := ReadsD.slcM (f := itemD) r414
  have en4 := CellsD.nil qq414
  subst en4
  clear qq414
  have HE6 := Lib.hid (And.intro r36 r46)
  clear r36 r46
  have HE7 := Lib.hid (And.intro r37 r47)
  clear r37 r47
  have HE8 := Lib.hid (And.intro r38 r48)
  clear r38 r48
  have HE9 := Lib.hid (And.intro r39 r49)
  clear r39 r49
  have HE10 := Lib.hid (And.intro r310 r410)
  clear r310 r410
  have HE11 := Lib.hid (And.intro r311 r411)
  clear r311 r411
  have HE12 := Lib.hid (And.intro r312 r412)
  clear r312 r412
  have HE14 := Lib.hid (And.intro r314 r414)
  clear r314 r414
  go_enter Try.func14, Try.ntmps14
  go_upto_region 1 with fail
  have HB := Lib.hid (two_boxes w 39 #[.int .i64 a.kind, .int .i64 a.frm, .int .i64 a.to, .int .i64 a.r1, .int .i64 a.r2, .int .i64 a.r3, .slice s36 a.reads.length t36, .slice s37 a.base.length t37, .slice s38 a.state.length t38, .slice s39 a.acks.length t39, .slice s310 a.proof.length t310, .slice s311 a.digs.length t311, .slice s312 a.objs.length t312, .int .i64 a.seq, .slice s314 a.items.length t314] #[.int .i64 a.kind, .int .i64 a.frm, .int .i64 a.to, .int .i64 a.r1, .int .i64 a.r2, .int .i64 a.r3, .slice s46 a.reads.length t46, .slice s47 a.base.length t47, .slice s48 a.state.length t48, .slice s49 a.acks.length t49, .slice s410 a.proof.length t410, .slice s411 a.digs.length t411, .slice s412 a.objs.length t412, .int .i64 a.seq, .slice s414 a.items.length t414])
  generalize hw0 : World.alloc (World.alloc w _) _ = w0 at HB ⊢
  clear hw0
  have d10 : w0.cell? ⟨w.heap.size, 0, none⟩ = some (.int .i64 a.kind) := HB.out.1.cell 0
  have d20 : w0.cell? ⟨w.heap.size + 1, 0, none⟩ = some (.int .i64 a.kind) := HB.out.2.1.cell 0
  have d11 : w0.cell? ⟨w.heap.size, 1, none⟩ = some (.int .i64 a.frm) := HB.out.1.cell 1
  have d21 : w0.cell? ⟨w.heap.size + 1, 1, none⟩ = some (.int .i64 a.frm) := HB.out.2.1.cell 1
  have d12 : w0.cell? ⟨w.heap.size, 2, none⟩ = some (.int .i64 a.to) := HB.out.1.cell 2
  have d22 : w0.cell? ⟨w.heap.size + 1, 2, none⟩ = some (.int .i64 a.to) := HB.out.2.1.cell 2
  have d13 : w0.cell? ⟨w.heap.size, 3, none⟩ = some (.int .i64 a.r1) := HB.out.1.cell 3
  have d23 : w0.cell? ⟨w.heap.size + 1, 3, none⟩ = some (.int .i64 a.r1) := HB.out.2.1.cell 3
  have d14 : w0.cell? ⟨w.heap.size, 4, none⟩ = some (.int .i64 a.r2) := HB.out.1.cell 4
  have d24 : w0.cell? ⟨w.heap.size + 1, 4, none⟩ = some (.int .i64 a.r2) := HB.out.2.1.cell 4
  have d15 : w0.cell? ⟨w.heap.size, 5, none⟩ = some (.int .i64 a.r3) := HB.out.1.cell 5
  have d25 : w0.cell? ⟨w.heap.size + 1, 5, none⟩ = some (.int .i64 a.r3) := HB.out.2.1.cell 5
  have d113 : w0.cell? ⟨w.heap.size, 13, none⟩ = some (.int .i64 a.seq) := HB.out.1.cell 13
  have d213 : w0.cell? ⟨w.heap.size + 1, 13, none⟩ = some (.int .i64 a.seq) := HB.out.2.1.cell 13
  have d16 : w0.cell? ⟨w.heap.size, 6, none⟩ = some (.slice s36 a.reads.length t36) := HB.out.1.cell 6
  have d26 : w0.cell? ⟨w.heap.size + 1, 6, none⟩ = some (.slice s46 a.reads.length t46) := HB.out.2.1.cell 6
  have nn0 : ((a.r1 == a.r1) && ((a.r2 == a.r2) && (a.r3 == a.r3))) = true := by simp
  have HCL := Lib.hid (same_reads _ _ a.reads a.reads w0 (HE6.out.1.on HB.out.2.2) (HE6.out.2.on HB.out.2.2))
  rw [eqb_same] at HCL
  go_wp2_with fail
  refine HCL.out.mono ?_
  rintro e w1 ⟨rfl, hb1⟩
  have HBw1 := Lib.hid (⟨HB.out.1.on hb1, HB.out.2.1.on hb1, HB.out.2.2.trans (hb1.mono HB.out.2.2.size)⟩ : Blk w1 w.heap.size 39 #[.int .i64 a.kind, .int .i64 a.frm, .int .i64 a.to, .int .i64 a.r1, .int .i64 a.r2, .int .i64 a.r3, .slice s36 a.reads.length t36, .slice s37 a.base.length t37, .slice s38 a.state.length t38, .slice s39 a.acks.length t39, .slice s310 a.proof.length t310, .slice s311 a.digs.length t311, .slice s312 a.objs.length t312, .int .i64 a.seq, .slice s314 a.items.length t314] ∧ Blk w1 (w.heap.size + 1) 39 #[.int .i64 a.kind, .int .i64 a.frm, .int .i64 a.to, .int .i64 a.r1, .int .i64 a.r2, .int .i64 a.r3, .slice s46 a.reads.length t46, .slice s47 a.base.length t47, .slice s48 a.state.length t48, .slice s49 a.acks.length t49, .slice s410 a.proof.length t410, .slice s411 a.digs.length t411, .slice s412 a.objs.length t412, .int .i64 a.seq, .slice s414 a.items.length t414] ∧ Below w.heap.size w w1)
  clear HCL HB hb1
  clear nn0 d10 d20 d11 d21 d12 d22 d13 d23 d14 d24 d15 d25 d113 d213 d16 d26
  have d18 : w1.cell? ⟨w.heap.size, 8, none⟩ = some (.slice s38 a.state.length t38) := HBw1.out.1.cell 8
  have d28 : w1.cell? ⟨w.heap.size + 1, 8, none⟩ = some (.slice s48 a.state.length t48) := HBw1.out.2.1.cell 8
  have HCL := Lib.hid (same_commands _ _ a.state a.state w1 (HE8.out.1.on HBw1.out.2.2) (HE8.out.2.on HBw1.out.2.2))
  rw [eqb_same] at HCL
  go_wp2_with fail
  refine HCL.out.mono ?_
  rintro e w2 ⟨rfl, hb1⟩
  have HBw2 := Lib.hid (⟨HBw1.out.1.on hb1, HBw1.out.2.1.on hb1, HBw1.out.2.2.trans (hb1.mono HBw1.out.2.2.size)⟩ : Blk w2 w.heap.size 39 #[.int .i64 a.kind, .int .i64 a.frm, .int .i64 a.to, .int .i64 a.r1, .int .i64 a.r2, .int .i64 a.r3, .slice s36 a.reads.length t36, .slice s37 a.base.length t37, .slice s38 a.state.length t38, .slice s39 a.acks.length t39, .slice s310 a.proof.length t310, .slice s311 a.digs.length t311, .slice s312 a.objs.length t312, .int .i64 a.seq, .slice s314 a.items.length t314] ∧ Blk w2 (w.heap.size + 1) 39 #[.int .i64 a.kind, .int .i64 a.frm, .int .i64 a.to, .int .i64 a.r1, .int .i64 a.r2, .int .i64 a.r3, .slice s46 a.reads.length t46, .slice s47 a.base.length t47, .slice s48 a.state.length t48, .slice s49 a.acks.length t49, .slice s410 a.proof.length t410, .slice s411 a.digs.length t411, .slice s412 a.objs.length t412, .int .i64 a.seq, .slice s414 a.items.length t414] ∧ Below w.heap.size w w2)
  clear HCL HBw1 hb1
  clear d18 d28
  have d19 : w2.cell? ⟨w.heap.size, 9, none⟩ = some (.slice s39 a.acks.length t39) := HBw2.out.1.cell 9
  have d29 : w2.cell? ⟨w.heap.size + 1, 9, none⟩ = some (.slice s49 a.acks.length t49) := HBw2.out.2.1.cell 9
  have HCL := Lib.hid (same_acks _ _ a.acks a.acks w2 (HE9.out.1.on HBw2.out.2.2) (HE9.out.2.on HBw2.out.2.2))
  rw [eqb_same] at HCL
  go_wp2_with fail
  refine HCL.out.mono ?_
  rintro e w3 ⟨rfl, hb1⟩
  have HBw3 := Lib.hid (⟨HBw2.out.1.on hb1, HBw2.out.2.1.on hb1, HBw2.out.2.2.trans (hb1.mono HBw2.out.2.2.size)⟩ : Blk w3 w.heap.size 39 #[.int .i64 a.kind, .int .i64 a.frm, .int .i64 a.to, .int .i64 a.r1, .int .i64 a.r2, .int .i64 a.r3, .slice s36 a.reads.length t36, .slice s37 a.base.length t37, .slice s38 a.state.length t38, .slice s39 a.acks.length t39, .slice s310 a.proof.length t310, .slice s311 a.digs.length t311, .slice s312 a.objs.length t312, .int .i64 a.seq, .slice s314 a.items.length t314] ∧ Blk w3 (w.heap.size + 1) 39 #[.int .i64 a.kind, .int .i64 a.frm, .int .i64 a.to, .int .i64 a.r1, .int .i64 a.r2, .int .i64 a.r3, .slice s46 a.reads.length t46, .slice s47 a.base.length t47, .slice s48 a.state.length t48, .slice s49 a.acks.length t49, .slice s410 a.proof.length t410, .slice s411 a.digs.length t411, .slice s412 a.objs.length t412, .int .i64 a.seq, .slice s414 a.items.length t414] ∧ Below w.heap.size w w3)
  clear HCL HBw2 hb1
  clear d19 d29
  have d17 : w3.cell? ⟨w.heap.size, 7, none⟩ = some (.slice s37 a.base.length t37) := HBw3.out.1.cell 7
  have d27 : w3.cell? ⟨w.heap.size + 1, 7, none⟩ = some (.slice s47 a.base.length t47) := HBw3.out.2.1.cell 7
  have d110 : w3.cell? ⟨w.heap.size, 10, none⟩ = some (.slice s310 a.proof.length t310) := HBw3.out.1.cell 10
  have d210 : w3.cell? ⟨w.heap.size + 1, 10, none⟩ = some (.slice s410 a.proof.length t410) := HBw3.out.2.1.cell 10
  have d111 : w3.cell? ⟨w.heap.size, 11, none⟩ = some (.slice s311 a.digs.length t311) := HBw3.out.1.cell 11
  have d211 : w3.cell? ⟨w.heap.size + 1, 11, none⟩ = some (.slice s411 a.digs.length t411) := HBw3.out.2.1.cell 11
  have d112 : w3.cell? ⟨w.heap.size, 12, none⟩ = some (.slice s312 a.objs.length t312) := HBw3.out.1.cell 12
  have d212 : w3.cell? ⟨w.heap.size + 1, 12, none⟩ = some (.slice s412 a.objs.length t412) := HBw3.out.2.1.cell 12
  have d114 : w3.cell? ⟨w.heap.size, 14, none⟩ = some (.slice s314 a.items.length t314) := HBw3.out.1.cell 14
  have d214 : w3.cell? ⟨w.heap.size + 1, 14, none⟩ = some (.slice s414 a.items.length t414) := HBw3.out.2.1.cell 14
  go_wp2
  clear d17 d27 d110 d210 d111 d211 d112 d212 d114 d214
  go_loopg [5] a.base.length (fun m i wr => ∃ k : Nat, m + k = a.base.length ∧ i = .int .i64 k ∧ Blk wr w.heap.size 39 #[.int .i64 a.kind, .int .i64 a.frm, .int .i64 a.to, .int .i64 a.r1, .int .i64 a.r2, .int .i64 a.r3, .slice s36 a.reads.length t36, .slice s37 a.base.length t37, .slice s38 a.state.length t38, .slice s39 a.acks.length t39, .slice s310 a.proof.length t310, .slice s311 a.digs.length t311, .slice s312 a.objs.length t312, .int .i64 a.seq, .slice s314 a.items.length t314] ∧ Blk wr (w.heap.size + 1) 39 #[.int .i64 a.kind, .int .i64 a.frm, .int .i64 a.to, .int .i64 a.r1, .int .i64 a.r2, .int .i64 a.r3, .slice s46 a.reads.length t46, .slice s47 a.base.length t47, .slice s48 a.state.length t48, .slice s49 a.acks.length t49, .slice s410 a.proof.length t410, .slice s411 a.digs.length t411, .slice s412 a.objs.length t412, .int .i64 a.seq, .slice s414 a.items.length t414] ∧ Below w.heap.size w wr)
  case atStart => exact ⟨0, by omega, rfl, HBw3.out⟩
  case round =>
    rename World => w1
    obtain ⟨k, hmk, rfl, hb⟩ := hrel
    have HM := Lib.hid hmk
    have HB := Lib.hid hb
    have hk : k ≤ a.base.length := by omega
    have hk0 : (0 : Int) ≤ (k : Int) := by omega
    clear hmk hb
    have d1 : w1.cell? ⟨w.heap.size, 7, none⟩ = some (.slice s37 a.base.length t37) := HB.out.1.cell 7
    have d2 : w1.cell? ⟨w.heap.size + 1, 7, none⟩ = some (.slice s47 a.base.length t47) := HB.out.2.1.cell 7
    by_cases hlt : k < a.base.length
    · have hki : (k : Int) < a.base.length := by omega
      obtain ⟨b1, o1, c1, cs1, e1, -, -, hn1, -, g1, q1⟩ := ReadsD.item (f := baseD) HE7.out.1 hlt
      obtain ⟨b2, o2, c2, cs2, e2, -, -, hn2, -, g2, q2⟩ := ReadsD.item (f := baseD) HE7.out.2 hlt
      injection e1 with e1 e3 e4
      injection e2 with e2 e5 e6
      subst e1 e2
      clear e3 e4 e5 e6
      generalize a.base[k] = x at *
      have HLT := Lib.hid hlt
      clear hlt
      have HC1 := Lib.hid g1
      have HC2 := Lib.hid g2
      have HQ := Lib.hid (And.intro q1 q2)
      have HL := Lib.hid (And.intro hn1 hn2)
      clear g1 g2 q1 q2 hn1 hn2
      clear d1 d2 hk
      have d1 : w1.cell? ⟨w.heap.size, 7, none⟩ = some (.slice (some ⟨b1, o1, none⟩) a.base.length t37) := HB.out.1.cell 7
      go_wp2_with fail
      refine region_left [.is (.pointer (some ⟨w.heap.size, 7, none⟩)), .is (.slice (some ⟨b1, o1, none⟩) a.base.length t37), .is (.int .i64 (k : Int)), .is (.pointer (some ⟨b1, o1 + k * 2, none⟩)), .is (.agg cs1.toArray), .is (.pointer (some ⟨w.heap.size + 1, 7, none⟩)), .is (.slice (some ⟨b2, o2, none⟩) a.base.length t47), .is (.int .i64 (k : Int)), .is (.pointer (some ⟨b2, o2 + k * 2, none⟩)), .is (.agg cs2.toArray), .is (.bool true), .is (.bool false)] (by kernel_rfl) rfl (by kernel_rfl) (by kernel_rfl) (.cons ?e0_0 (.cons ?e0_1 (.cons ?e0_2 (.cons ?e0_3 (.cons ?e0_4 (.cons ?e0_5 (.cons ?e0_6 (.cons ?e0_7 (.cons ?e0_8 (.cons ?e0_9 (.cons ?e0_10 (.cons ?e0_11 .nil)))))))))))) ?e0_fin
      case e0_0 =>
        intro wq hbw st  K hK
        have KQ := HB.out.2.2.trans (hbw.mono HB.out.2.2.size)
        simp only [Act.put, List.setIfInBounds_toArray, List.set_cons_zero, List.set_cons_succ] at hK ⊢
        unfold opStep
        rw [if_pos (by rfl)]
        go_simp
        exact hK.out _ _ (Below.refl _ _) rfl _ rfl
      case e0_1 =>
        intro wq hbw st  K hK
        have KQ := HB.out.2.2.trans (hbw.mono HB.out.2.2.size)
        simp only [Act.put, List.setIfInBounds_toArray, List.set_cons_zero, List.set_cons_succ] at hK ⊢
        unfold opStep
        rw [if_pos (by rfl)]
        have d0 : wq.cell? ⟨w.heap.size, 7, none⟩ = some (.slice (some ⟨b1, o1, none⟩) a.base.length t37) := (HB.out.1.on hbw).cell 7
        go_simp
        exact hK.out _ _ (Below.refl _ _) rfl _ rfl
      case e0_2 =>
        intro wq hbw st  K hK
        have KQ := HB.out.2.2.trans (hbw.mono HB.out.2.2.size)
        simp only [Act.put, List.setIfInBounds_toArray, List.set_cons_zero, List.set_cons_succ] at hK ⊢
        unfold opStep
        rw [if_pos (by rfl)]
        go_simp
        exact hK.out _ _ (Below.refl _ _) rfl _ rfl
      case e0_3 =>
        intro wq hbw st  K hK
        have KQ := HB.out.2.2.trans (hbw.mono HB.out.2.2.size)
        simp only [Act.put, List.setIfInBounds_toArray, List.set_cons_zero, List.set_cons_succ] at hK ⊢
        unfold opStep
        rw [if_pos (by rfl)]
        go_simp
        exact hK.out _ _ (Below.refl _ _) rfl _ rfl
      case e0_4 =>
        intro wq hbw st  K hK
        have KQ := HB.out.2.2.trans (hbw.mono HB.out.2.2.size)
        simp only [Act.put, List.setIfInBounds_toArray, List.set_cons_zero, List.set_cons_succ] at hK ⊢
        unfold opStep
        rw [if_pos (by rfl)]
        refine wp_load_mid 106 (.tmp 118) (by rfl) b1 (o1 + k * 2) (by rfl) cs1 _ (HC1.out wq KQ) Try.underlying106 (by rfl) (by rw [HL.out.1]; kernel_rfl) ?_
        exact hK.out _ _ (Below.refl _ _) rfl _ rfl
      case e0_5 =>
        intro wq hbw st  K hK
        have KQ := HB.out.2.2.trans (hbw.mono HB.out.2.2.size)
        simp only [Act.put, List.setIfInBounds_toArray, List.set_cons_zero, List.set_cons_succ] at hK ⊢
        unfold opStep
        rw [if_pos (by rfl)]
        go_simp
        exact hK.out _ _ (Below.refl _ _) rfl _ rfl
      case e0_6 =>
        intro wq hbw st  K hK
        have KQ := HB.out.2.2.trans (hbw.mono HB.out.2.2.size)
        simp only [Act.put, List.setIfInBounds_toArray, List.set_cons_zero, List.set_cons_succ] at hK ⊢
        unfold opStep
        rw [if_pos (by rfl)]
        have d0 : wq.cell? ⟨w.heap.size + 1, 7, none⟩ = some (.slice (some ⟨b2, o2, none⟩) a.base.length t47) := (HB.out.2.1.on hbw).cell 7
        go_simp
        exact hK.out _ _ (Below.refl _ _) rfl _ rfl
      case e0_7 =>
        intro wq hbw st  K hK
        have KQ := HB.out.2.2.trans (hbw.mono HB.out.2.2.size)
        simp only [Act.put, List.setIfInBounds_toArray, List.set_cons_zero, List.set_cons_succ] at hK ⊢
        unfold opStep
        rw [if_pos (by rfl)]
        go_simp
        exact hK.out _ _ (Below.refl _ _) rfl _ rfl
      case e0_8 =>
        intro wq hbw st  K hK
        have KQ := HB.out.2.2.trans (hbw.mono HB.out.2.2.size)
        simp only [Act.put, List.setIfInBounds_toArray, List.set_cons_zero, List.set_cons_succ] at hK ⊢
        unfold opStep
        rw [if_pos (by rfl)]
        go_simp
        exact hK.out _ _ (Below.refl _ _) rfl _ rfl
      case e0_9 =>
        intro wq hbw st  K hK
        have KQ := HB.out.2.2.trans (hbw.mono HB.out.2.2.size)
        simp only [Act.put, List.setIfInBounds_toArray, List.set_cons_zero, List.set_cons_succ] at hK ⊢
        unfold opStep
        rw [if_pos (by rfl)]
        refine wp_load_mid 106 (.tmp 123) (by rfl) b2 (o2 + k * 2) (by rfl) cs2 _ (HC2.out wq KQ) Try.underlying106 (by rfl) (by rw [HL.out.2]; kernel_rfl) ?_
        exact hK.out _ _ (Below.refl _ _) rfl _ rfl
      case e0_10 =>
        intro wq hbw st  K hK
        have KQ := HB.out.2.2.trans (hbw.mono HB.out.2.2.size)
        simp only [Act.put, List.setIfInBounds_toArray, List.set_cons_zero, List.set_cons_succ] at hK ⊢
        unfold opStep
        rw [if_pos (by rfl)]
        go_simp
        have hpc := same_base cs1 cs2 x wq (HQ.out.1.on KQ) (HQ.out.2.on KQ)
        refine hpc.mono ?_
        rintro e wz ⟨rfl, hbz⟩
        go_simp
        exact hK.out _ _ hbz rfl _ rfl
      case e0_11 =>
        intro wq hbw st  K hK
        have KQ := HB.out.2.2.trans (hbw.mono HB.out.2.2.size)
        simp only [Act.put, List.setIfInBounds_toArray, List.set_cons_zero, List.set_cons_succ] at hK ⊢
        unfold opStep
        rw [if_pos (by rfl)]
        go_simp
        exact hK.out _ _ (Below.refl _ _) rfl _ rfl
      case e0_fin =>
        intro wq hbw
        try simp only [FinAll]
        simp only [Act.put, List.setIfInBounds_toArray, List.set_cons_zero, List.set_cons_succ]
        have HB2 := Lib.hid (⟨HB.out.1.on hbw, HB.out.2.1.on hbw, HB.out.2.2.trans (hbw.mono HB.out.2.2.size)⟩ : _ ∧ _ ∧ _)
        clear hbw
        go_wp2
        go_roundg (a.base.length - (k + 1))
        case measure => have := HM.out; have := HLT.out; omega
        case rel => exact ⟨k + 1, by have := HLT.out; omega, by go_num, HB2.out⟩
    · have hki : ¬ (k : Int) < a.base.length := by omega
      go_wp2
      clear hki d1 d2 hk hk0 HM
      have HI := Lib.hid HB.out
      clear HB
      go_loopg [6] a.proof.length (fun m i wr => ∃ k : Nat, m + k = a.proof.length ∧ i = .int .i64 k ∧ Blk wr w.heap.size 39 #[.int .i64 a.kind, .int .i64 a.frm, .int .i64 a.to, .int .i64 a.r1, .int .i64 a.r2, .int .i64 a.r3, .slice s36 a.reads.length t36, .slice s37 a.base.length t37, .slice s38 a.state.length t38, .slice s39 a.acks.length t39, .slice s310 a.proof.length t310, .slice s311 a.digs.length t311, .slice s312 a.objs.length t312, .int .i64 a.seq, .slice s314 a.items.length t314] ∧ Blk wr (w.heap.size + 1) 39 #[.int .i64 a.kind, .int .i64 a.frm, .int .i64 a.to, .int .i64 a.r1, .int .i64 a.r2, .int .i64 a.r3, .slice s46 a.reads.length t46, .slice s47 a.base.length t47, .slice s48 a.state.length t48, .slice s49 a.acks.length t49, .slice s410 a.proof.length t410, .slice s411 a.digs.length t411, .slice s412 a.objs.length t412, .int .i64 a.seq, .slice s414 a.items.length t414] ∧ Below w.heap.size w wr)
      case atStart => exact ⟨0, by omega, rfl, HI.out⟩
      case round =>
        rename World => w1
        obtain ⟨k, hmk, rfl, hb⟩ := hrel
        have HM := Lib.hid hmk
        have HB := Lib.hid hb
        have hk : k ≤ a.proof.length := by omega
        have hk0 : (0 : Int) ≤ (k : Int) := by omega
        clear hmk hb
        have d1 : w1.cell? ⟨w.heap.size, 10, none⟩ = some (.slice s310 a.proof.length t310) := HB.out.1.cell 10
        have d2 : w1.cell? ⟨w.heap.size + 1, 10, none⟩ = some (.slice s410 a.proof.length t410) := HB.out.2.1.cell 10
        by_cases hlt : k < a.proof.length
        · have hki : (k : Int) < a.proof.length := by omega
          obtain ⟨b1, o1, c1, cs1, e1, -, -, hn1, -, g1, q1⟩ := ReadsD.item (f := proofD) HE10.out.1 hlt
          obtain ⟨b2, o2, c2, cs2, e2, -, -, hn2, -, g2, q2⟩ := ReadsD.item (f := proofD) HE10.out.2 hlt
          injection e1 with e1 e3 e4
          injection e2 with e2 e5 e6
          subst e1 e2
          clear e3 e4 e5 e6
          generalize a.proof[k] = x at *
          have HLT := Lib.hid hlt
          clear hlt
          have HC1 := Lib.hid g1
          have HC2 := Lib.hid g2
          have HQ := Lib.hid (And.intro q1 q2)
          have HL := Lib.hid (And.intro hn1 hn2)
          clear g1 g2 q1 q2 hn1 hn2
          clear d1 d2 hk
          have d1 : w1.cell? ⟨w.heap.size, 10, none⟩ = some (.slice (some ⟨b1, o1, none⟩) a.proof.length t310) := HB.out.1.cell 10
          go_wp2_with fail
          refine region_left [.is (.pointer (some ⟨w.heap.size, 10, none⟩)), .is (.slice (some ⟨b1, o1, none⟩) a.proof.length t310), .is (.int .i64 (k : Int)), .is (.pointer (some ⟨b1, o1 + k * 10, none⟩)), .is (.agg cs1.toArray), .is (.pointer (some ⟨w.heap.size + 1, 10, none⟩)), .is (.slice (some ⟨b2, o2, none⟩) a.proof.length t410), .is (.int .i64 (k : Int)), .is (.pointer (some ⟨b2, o2 + k * 10, none⟩)), .is (.agg cs2.toArray), .is (.bool true), .is (.bool false)] (by kernel_rfl) rfl (by kernel_rfl) (by kernel_rfl) (.cons ?e1_0 (.cons ?e1_1 (.cons ?e1_2 (.cons ?e1_3 (.cons ?e1_4 (.cons ?e1_5 (.cons ?e1_6 (.cons ?e1_7 (.cons ?e1_8 (.cons ?e1_9 (.cons ?e1_10 (.cons ?e1_11 .nil)))))))))))) ?e1_fin
          case e1_0 =>
            intro wq hbw st  K hK
            have KQ := HB.out.2.2.trans (hbw.mono HB.out.2.2.size)
            simp only [Act.put, List.setIfInBounds_toArray, List.set_cons_zero, List.set_cons_succ] at hK ⊢
            unfold opStep
            rw [if_pos (by rfl)]
            go_simp
            exact hK.out _ _ (Below.refl _ _) rfl _ rfl
          case e1_1 =>
            intro wq hbw st  K hK
            have KQ := HB.out.2.2.trans (hbw.mono HB.out.2.2.size)
            simp only [Act.put, List.setIfInBounds_toArray, List.set_cons_zero, List.set_cons_succ] at hK ⊢
            unfold opStep
            rw [if_pos (by rfl)]
            have d0 : wq.cell? ⟨w.heap.size, 10, none⟩ = some (.slice (some ⟨b1, o1, none⟩) a.proof.length t310) := (HB.out.1.on hbw).cell 10
            go_simp
            exact hK.out _ _ (Below.refl _ _) rfl _ rfl
          case e1_2 =>
            intro wq hbw st  K hK
            have KQ := HB.out.2.2.trans (hbw.mono HB.out.2.2.size)
            simp only [Act.put, List.setIfInBounds_toArray, List.set_cons_zero, List.set_cons_succ] at hK ⊢
            unfold opStep
            rw [if_pos (by rfl)]
            go_simp
            exact hK.out _ _ (Below.refl _ _) rfl _ rfl
          case e1_3 =>
            intro wq hbw st  K hK
            have KQ := HB.out.2.2.trans (hbw.mono HB.out.2.2.size)
            simp only [Act.put, List.setIfInBounds_toArray, List.set_cons_zero, List.set_cons_succ] at hK ⊢
            unfold opStep
            rw [if_pos (by rfl)]
            go_simp
            exact hK.out _ _ (Below.refl _ _) rfl _ rfl
          case e1_4 =>
            intro wq hbw st  K hK
            have KQ := HB.out.2.2.trans (hbw.mono HB.out.2.2.size)
            simp only [Act.put, List.setIfInBounds_toArray, List.set_cons_zero, List.set_cons_succ] at hK ⊢
            unfold opStep
            rw [if_pos (by rfl)]
            refine wp_load_mid 92 (.tmp 137) (by rfl) b1 (o1 + k * 10) (by rfl) cs1 _ (HC1.out wq KQ) Try.underlying92 (by rfl) (by rw [HL.out.1]; kernel_rfl) ?_
            exact hK.out _ _ (Below.refl _ _) rfl _ rfl
          case e1_5 =>
            intro wq hbw st  K hK
            have KQ := HB.out.2.2.trans (hbw.mono HB.out.2.2.size)
            simp only [Act.put, List.setIfInBounds_toArray, List.set_cons_zero, List.set_cons_succ] at hK ⊢
            unfold opStep
            rw [if_pos (by rfl)]
            go_simp
            exact hK.out _ _ (Below.refl _ _) rfl _ rfl
          case e1_6 =>
            intro wq hbw st  K hK
            have KQ := HB.out.2.2.trans (hbw.mono HB.out.2.2.size)
            simp only [Act.put, List.setIfInBounds_toArray, List.set_cons_zero, List.set_cons_succ] at hK ⊢
            unfold opStep
            rw [if_pos (by rfl)]
            have d0 : wq.cell? ⟨w.heap.size + 1, 10, none⟩ = some (.slice (some ⟨b2, o2, none⟩) a.proof.length t410) := (HB.out.2.1.on hbw).cell 10
            go_simp
            exact hK.out _ _ (Below.refl _ _) rfl _ rfl
          case e1_7 =>
            intro wq hbw st  K hK
            have KQ := HB.out.2.2.trans (hbw.mono HB.out.2.2.size)
            simp only [Act.put, List.setIfInBounds_toArray, List.set_cons_zero, List.set_cons_succ] at hK ⊢
            unfold opStep
            rw [if_pos (by rfl)]
            go_simp
            exact hK.out _ _ (Below.refl _ _) rfl _ rfl
          case e1_8 =>
            intro wq hbw st  K hK
            have KQ := HB.out.2.2.trans (hbw.mono HB.out.2.2.size)
            simp only [Act.put, List.setIfInBounds_toArray, List.set_cons_zero, List.set_cons_succ] at hK ⊢
            unfold opStep
            rw [if_pos (by rfl)]
            go_simp
            exact hK.out _ _ (Below.refl _ _) rfl _ rfl
          case e1_9 =>
            intro wq hbw st  K hK
            have KQ := HB.out.2.2.trans (hbw.mono HB.out.2.2.size)
            simp only [Act.put, List.setIfInBounds_toArray, List.set_cons_zero, List.set_cons_succ] at hK ⊢
            unfold opStep
            rw [if_pos (by rfl)]
            refine wp_load_mid 92 (.tmp 142) (by rfl) b2 (o2 + k * 10) (by rfl) cs2 _ (HC2.out wq KQ) Try.underlying92 (by rfl) (by rw [HL.out.2]; kernel_rfl) ?_
            exact hK.out _ _ (Below.refl _ _) rfl _ rfl
          case e1_10 =>
            intro wq hbw st  K hK
            have KQ := HB.out.2.2.trans (hbw.mono HB.out.2.2.size)
            simp only [Act.put, List.setIfInBounds_toArray, List.set_cons_zero, List.set_cons_succ] at hK ⊢
            unfold opStep
            rw [if_pos (by rfl)]
            go_simp
            have hpc := same_proof cs1 cs2 x wq (HQ.out.1.on KQ) (HQ.out.2.on KQ)
            refine hpc.mono ?_
            rintro e wz ⟨rfl, hbz⟩
            go_simp
            exact hK.out _ _ hbz rfl _ rfl
          case e1_11 =>
            intro wq hbw st  K hK
            have KQ := HB.out.2.2.trans (hbw.mono HB.out.2.2.size)
            simp only [Act.put, List.setIfInBounds_toArray, List.set_cons_zero, List.set_cons_succ] at hK ⊢
            unfold opStep
            rw [if_pos (by rfl)]
            go_simp
            exact hK.out _ _ (Below.refl _ _) rfl _ rfl
          case e1_fin =>
            intro wq hbw
            try simp only [FinAll]
            simp only [Act.put, List.setIfInBounds_toArray, List.set_cons_zero, List.set_cons_succ]
            have HB2 := Lib.hid (⟨HB.out.1.on hbw, HB.out.2.1.on hbw, HB.out.2.2.trans (hbw.mono HB.out.2.2.size)⟩ : _ ∧ _ ∧ _)
            clear hbw
            go_wp2
            go_roundg (a.proof.length - (k + 1))
            case measure => have := HM.out; have := HLT.out; omega
            case rel => exact ⟨k + 1, by have := HLT.out; omega, by go_num, HB2.out⟩
        · have hki : ¬ (k : Int) < a.proof.length := by omega
          go_wp2
          clear hki d1 d2 hk hk0 HM
          have HI := Lib.hid HB.out
          clear HB
          go_loopg [7] a.digs.length (fun m i wr => ∃ k : Nat, m + k = a.digs.length ∧ i = .int .i64 k ∧ Blk wr w.heap.size 39 #[.int .i64 a.kind, .int .i64 a.frm, .int .i64 a.to, .int .i64 a.r1, .int .i64 a.r2, .int .i64 a.r3, .slice s36 a.reads.length t36, .slice s37 a.base.length t37, .slice s38 a.state.length t38, .slice s39 a.acks.length t39, .slice s310 a.proof.length t310, .slice s311 a.digs.length t311, .slice s312 a.objs.length t312, .int .i64 a.seq, .slice s314 a.items.length t314] ∧ Blk wr (w.heap.size + 1) 39 #[.int .i64 a.kind, .int .i64 a.frm, .int .i64 a.to, .int .i64 a.r1, .int .i64 a.r2, .int .i64 a.r3, .slice s46 a.reads.length t46, .slice s47 a.base.length t47, .slice s48 a.state.length t48, .slice s49 a.acks.length t49, .slice s410 a.proof.length t410, .slice s411 a.digs.length t411, .slice s412 a.objs.length t412, .int .i64 a.seq, .slice s414 a.items.length t414] ∧ Below w.heap.size w wr)
          case atStart => exact ⟨0, by omega, rfl, HI.out⟩
          case round =>
            rename World => w1
            obtain ⟨k, hmk, rfl, hb⟩ := hrel
            have HM := Lib.hid hmk
            have HB := Lib.hid hb
            have hk : k ≤ a.digs.length := by omega
            have hk0 : (0 : Int) ≤ (k : Int) := by omega
            clear hmk hb
            have d1 : w1.cell? ⟨w.heap.size, 11, none⟩ = some (.slice s311 a.digs.length t311) := HB.out.1.cell 11
            have d2 : w1.cell? ⟨w.heap.size + 1, 11, none⟩ = some (.slice s411 a.digs.length t411) := HB.out.2.1.cell 11
            by_cases hlt : k < a.digs.length
            · have hki : (k : Int) < a.digs.length := by omega
              obtain ⟨b1, o1, c1, cs1, e1, -, -, hn1, -, g1, q1⟩ := ReadsD.item (f := digD) HE11.out.1 hlt
              obtain ⟨b2, o2, c2, cs2, e2, -, -, hn2, -, g2, q2⟩ := ReadsD.item (f := digD) HE11.out.2 hlt
              injection e1 with e1 e3 e4
              injection e2 with e2 e5 e6
              subst e1 e2
              clear e3 e4 e5 e6
              generalize a.digs[k] = x at *
              have HLT := Lib.hid hlt
              clear hlt
              obtain ⟨v10, cs1, rfl, r10, qq10⟩ := CellsD.cons q1
              clear q1
              obtain ⟨s10, t10, rfl, -⟩ := r10.bslc
              obtain ⟨v11, cs1, rfl, r11, qq11⟩ := CellsD.cons qq10
              clear qq10
              obtain ⟨s11, t11, rfl, -⟩ := r11.bslc
              obtain ⟨v12, cs1, rfl, r12, qq12⟩ := CellsD.cons qq11
              clear qq11
              have e12 := r12.i
              subst e12
              clear r12
              have en1 := CellsD.nil qq12
              subst en1
              clear qq12
              obtain ⟨v20, cs2, rfl, r20, qq20⟩ := CellsD.cons q2
              clear q2
              obtain ⟨s20, t20, rfl, -⟩ := r20.bslc
              obtain ⟨v21, cs2, rfl, r21, qq21⟩ := CellsD.cons qq20
              clear qq20
              obtain ⟨s21, t21, rfl, -⟩ := r21.bslc
              obtain ⟨v22, cs2, rfl, r22, qq22⟩ := CellsD.cons qq21
              clear qq21
              have e22 := r22.i
              subst e22
              clear r22
              have en2 := CellsD.nil qq22
              subst en2
              clear qq22
              have HC1 := Lib.hid (fun (wq : World) (hq : Below w.heap.size w wq) => And.intro (show wq.cell? ⟨b1, o1 + k * 3, none⟩ = some (.slice s10 x.pre.length t10) from g1 wq hq 0 _ rfl) ( And.intro (show wq.cell? ⟨b1, o1 + k * 3 + 1, none⟩ = some (.slice s11 x.sum.length t11) from g1 wq hq 1 _ rfl) (show wq.cell? ⟨b1, o1 + k * 3 + 2, none⟩ = some (.int .i64 x.count) from g1 wq hq 2 _ rfl)))
              have HC2 := Lib.hid (fun (wq : World) (hq : Below w.heap.size w wq) => And.intro (show wq.cell? ⟨b2, o2 + k * 3, none⟩ = some (.slice s20 x.pre.length t20) from g2 wq hq 0 _ rfl) ( And.intro (show wq.cell? ⟨b2, o2 + k * 3 + 1, none⟩ = some (.slice s21 x.sum.length t21) from g2 wq hq 1 _ rfl) (show wq.cell? ⟨b2, o2 + k * 3 + 2, none⟩ = some (.int .i64 x.count) from g2 wq hq 2 _ rfl)))
              have HE0 := Lib.hid (And.intro r10 r20)
              clear r10 r20
              have HE1 := Lib.hid (And.intro r11 r21)
              clear r11 r21
              clear g1 g2
              clear d1 d2 hk
              have d1 : w1.cell? ⟨w.heap.size, 11, none⟩ = some (.slice (some ⟨b1, o1, none⟩) a.digs.length t311) := HB.out.1.cell 11
              go_wp2_with fail
              refine region_left [.is (.pointer (some ⟨w.heap.size, 11, none⟩)), .is (.slice (some ⟨b1, o1, none⟩) a.digs.length t311), .is (.int .i64 (k : Int)), .is (.pointer (some ⟨b1, o1 + k * 3, none⟩)), .is (.pointer (some ⟨b1, o1 + k * 3, none⟩)), .is (.slice s10 x.pre.length t10), .is (.pointer (some ⟨w.heap.size + 1, 11, none⟩)), .is (.slice (some ⟨b2, o2, none⟩) a.digs.length t411), .is (.int .i64 (k : Int)), .is (.pointer (some ⟨b2, o2 + k * 3, none⟩)), .is (.pointer (some ⟨b2, o2 + k * 3, none⟩)), .is (.slice s20 x.pre.length t20), .is (.bool true), .is (.bool false), .is (.bool false), .is (.pointer (some ⟨w.heap.size, 11, none⟩)), .is (.slice (some ⟨b1, o1, none⟩) a.digs.length t311), .is (.int .i64 (k : Int)), .is (.pointer (some ⟨b1, o1 + k * 3, none⟩)), .is (.pointer (some ⟨b1, o1 + k * 3 + 1, none⟩)), .is (.slice s11 x.sum.length t11), .is (.pointer (some ⟨w.heap.size + 1, 11, none⟩)), .is (.slice (some ⟨b2, o2, none⟩) a.digs.length t411), .is (.int .i64 (k : Int)), .is (.pointer (some ⟨b2, o2 + k * 3, none⟩)), .is (.pointer (some ⟨b2, o2 + k * 3 + 1, none⟩)), .is (.slice s21 x.sum.length t21), .is (.bool true), .is (.bool false), .is (.bool false), .is (.bool false), .is (.pointer (some ⟨w.heap.size, 11, none⟩)), .is (.slice (some ⟨b1, o1, none⟩) a.digs.length t311), .is (.int .i64 (k : Int)), .is (.pointer (some ⟨b1, o1 + k * 3, none⟩)), .is (.pointer (some ⟨b1, o1 + k * 3 + 2, none⟩)), .is (.int .i64 x.count), .is (.pointer (some ⟨w.heap.size + 1, 11, none⟩)), .is (.slice (some ⟨b2, o2, none⟩) a.digs.length t411), .is (.int .i64 (k : Int)), .is (.pointer (some ⟨b2, o2 + k * 3, none⟩)), .is (.pointer (some ⟨b2, o2 + k * 3 + 2, none⟩)), .is (.int .i64 x.count), .is (.bool false), .is (.bool false)] (by kernel_rfl) rfl (by kernel_rfl) (by kernel_rfl) (.cons ?e2_0 (.cons ?e2_1 (.cons ?e2_2 (.cons ?e2_3 (.cons ?e2_4 (.cons ?e2_5 (.cons ?e2_6 (.cons ?e2_7 (.cons ?e2_8 (.cons ?e2_9 (.cons ?e2_10 (.cons ?e2_11 (.cons ?e2_12 (.cons ?e2_13 (.cons ?e2_14 (.cons ?e2_15 (.cons ?e2_16 (.cons ?e2_17 (.cons ?e2_18 (.cons ?e2_19 (.cons ?e2_20 (.cons ?e2_21 (.cons ?e2_22 (.cons ?e2_23 (.cons ?e2_24 (.cons ?e2_25 (.cons ?e2_26 (.cons ?e2_27 (.cons ?e2_28 (.cons ?e2_29 (.cons ?e2_30 (.cons ?e2_31 (.cons ?e2_32 (.cons ?e2_33 (.cons ?e2_34 (.cons ?e2_35 (.cons ?e2_36 (.cons ?e2_37 (.cons ?e2_38 (.cons ?e2_39 (.cons ?e2_40 (.cons ?e2_41 (.cons ?e2_42 (.cons ?e2_43 (.cons ?e2_44 .nil))))))))))))))))))))))))))))))))))))))))))))) ?e2_fin
              case e2_0 =>
                intro wq hbw st  K hK
                have KQ := HB.out.2.2.trans (hbw.mono HB.out.2.2.size)
                simp only [Act.put, List.setIfInBounds_toArray, List.set_cons_zero, List.set_cons_succ] at hK ⊢
                unfold opStep
                rw [if_pos (by rfl)]
                go_simp
                exact hK.out _ _ (Below.refl _ _) rfl _ rfl
              case e2_1 =>
                intro wq hbw st  K hK
                have KQ := HB.out.2.2.trans (hbw.mono HB.out.2.2.size)
                simp only [Act.put, List.setIfInBounds_toArray, List.set_cons_zero, List.set_cons_succ] at hK ⊢
                unfold opStep
                rw [if_pos (by rfl)]
                have d0 : wq.cell? ⟨w.heap.size, 11, none⟩ = some (.slice (some ⟨b1, o1, none⟩) a.digs.length t311) := (HB.out.1.on hbw).cell 11
                go_simp
                exact hK.out _ _ (Below.refl _ _) rfl _ rfl
              case e2_2 =>
                intro wq hbw st  K hK
                have KQ := HB.out.2.2.trans (hbw.mono HB.out.2.2.size)
                simp only [Act.put, List.setIfInBounds_toArray, List.set_cons_zero, List.set_cons_succ] at hK ⊢
                unfold opStep
                rw [if_pos (by rfl)]
                go_simp
                exact hK.out _ _ (Below.refl _ _) rfl _ rfl
              case e2_3 =>
                intro wq hbw st  K hK
                have KQ := HB.out.2.2.trans (hbw.mono HB.out.2.2.size)
                simp only [Act.put, List.setIfInBounds_toArray, List.set_cons_zero, List.set_cons_succ] at hK ⊢
                unfold opStep
                rw [if_pos (by rfl)]
                go_simp
                exact hK.out _ _ (Below.refl _ _) rfl _ rfl
              case e2_4 =>
                intro wq hbw st  K hK
                have KQ := HB.out.2.2.trans (hbw.mono HB.out.2.2.size)
                simp only [Act.put, List.setIfInBounds_toArray, List.set_cons_zero, List.set_cons_succ] at hK ⊢
                unfold opStep
                rw [if_pos (by rfl)]
                go_simp
                exact hK.out _ _ (Below.refl _ _) rfl _ rfl
              case e2_5 =>
                intro wq hbw st  K hK
                have KQ := HB.out.2.2.trans (hbw.mono HB.out.2.2.size)
                simp only [Act.put, List.setIfInBounds_toArray, List.set_cons_zero, List.set_cons_succ] at hK ⊢
                unfold opStep
                rw [if_pos (by rfl)]
                have dd := Lib.hid (HC1.out wq KQ)
                have d0 := dd.out.1
                go_simp
                exact hK.out _ _ (Below.refl _ _) rfl _ rfl
              case e2_6 =>
                intro wq hbw st  K hK
                have KQ := HB.out.2.2.trans (hbw.mono HB.out.2.2.size)
                simp only [Act.put, List.setIfInBounds_toArray, List.set_cons_zero, List.set_cons_succ] at hK ⊢
                unfold opStep
                rw [if_pos (by rfl)]
                go_simp
                exact hK.out _ _ (Below.refl _ _) rfl _ rfl
              case e2_7 =>
                intro wq hbw st  K hK
                have KQ := HB.out.2.2.trans (hbw.mono HB.out.2.2.size)
                simp only [Act.put, List.setIfInBounds_toArray, List.set_cons_zero, List.set_cons_succ] at hK ⊢
                unfold opStep
                rw [if_pos (by rfl)]
                have d0 : wq.cell? ⟨w.heap.size + 1, 11, none⟩ = some (.slice (some ⟨b2, o2, none⟩) a.digs.length t411) := (HB.out.2.1.on hbw).cell 11
                go_simp
                exact hK.out _ _ (Below.refl _ _) rfl _ rfl
              case e2_8 =>
                intro wq hbw st  K hK
                have KQ := HB.out.2.2.trans (hbw.mono HB.out.2.2.size)
                simp only [Act.put, List.setIfInBounds_toArray, List.set_cons_zero, List.set_cons_succ] at hK ⊢
                unfold opStep
                rw [if_pos (by rfl)]
                go_simp
                exact hK.out _ _ (Below.refl _ _) rfl _ rfl
              case e2_9 =>
                intro wq hbw st  K hK
                have KQ := HB.out.2.2.trans (hbw.mono HB.out.2.2.size)
                simp only [Act.put, List.setIfInBounds_toArray, List.set_cons_zero, List.set_cons_succ] at hK ⊢
                unfold opStep
                rw [if_pos (by rfl)]
                go_simp
                exact hK.out _ _ (Below.refl _ _) rfl _ rfl
              case e2_10 =>
                intro wq hbw st  K hK
                have KQ := HB.out.2.2.trans (hbw.mono HB.out.2.2.size)
                simp only [Act.put, List.setIfInBounds_toArray, List.set_cons_zero, List.set_cons_succ] at hK ⊢
                unfold opStep
                rw [if_pos (by rfl)]
                go_simp
                exact hK.out _ _ (Below.refl _ _) rfl _ rfl
              case e2_11 =>
                intro wq hbw st  K hK
                have KQ := HB.out.2.2.trans (hbw.mono HB.out.2.2.size)
                simp only [Act.put, List.setIfInBounds_toArray, List.set_cons_zero, List.set_cons_succ] at hK ⊢
                unfold opStep
                rw [if_pos (by rfl)]
                have dd := Lib.hid (HC2.out wq KQ)
                have d0 := dd.out.1
                go_simp
                exact hK.out _ _ (Below.refl _ _) rfl _ rfl
              case e2_12 =>
                intro wq hbw st  K hK
                have KQ := HB.out.2.2.trans (hbw.mono HB.out.2.2.size)
                simp only [Act.put, List.setIfInBounds_toArray, List.set_cons_zero, List.set_cons_succ] at hK ⊢
                unfold opStep
                rw [if_pos (by rfl)]
                go_simp
                have hpc := same_bytes _ _ x.pre x.pre wq (HE0.out.1.on KQ) (HE0.out.2.on KQ)
                rw [eqb_same] at hpc
                refine hpc.mono ?_
                rintro e wz ⟨rfl, hbz⟩
                go_simp
                exact hK.out _ _ hbz rfl _ rfl
              case e2_13 =>
                intro wq hbw st  K hK
                have KQ := HB.out.2.2.trans (hbw.mono HB.out.2.2.size)
                simp only [Act.put, List.setIfInBounds_toArray, List.set_cons_zero, List.set_cons_succ] at hK ⊢
                unfold opStep
                rw [if_pos (by rfl)]
                go_simp
                exact hK.out _ _ (Below.refl _ _) rfl _ rfl
              case e2_14 =>
                intro wq hbw st  K hK
                have KQ := HB.out.2.2.trans (hbw.mono HB.out.2.2.size)
                simp only [Act.put, List.setIfInBounds_toArray, List.set_cons_zero, List.set_cons_succ] at hK ⊢
                unfold opStep
                rw [if_pos (by rfl)]
                go_simp
                exact hK.out _ _ (Below.refl _ _) rfl _ rfl
              case e2_15 =>
                intro wq hbw st  K hK
                have KQ := HB.out.2.2.trans (hbw.mono HB.out.2.2.size)
                simp only [Act.put, List.setIfInBounds_toArray, List.set_cons_zero, List.set_cons_succ] at hK ⊢
                unfold opStep
                rw [if_pos (by rfl)]
                go_simp
                exact hK.out _ _ (Below.refl _ _) rfl _ rfl
              case e2_16 =>
                intro wq hbw st  K hK
                have KQ := HB.out.2.2.trans (hbw.mono HB.out.2.2.size)
                simp only [Act.put, List.setIfInBounds_toArray, List.set_cons_zero, List.set_cons_succ] at hK ⊢
                unfold opStep
                rw [if_pos (by rfl)]
                have d0 : wq.cell? ⟨w.heap.size, 11, none⟩ = some (.slice (some ⟨b1, o1, none⟩) a.digs.length t311) := (HB.out.1.on hbw).cell 11
                go_simp
                exact hK.out _ _ (Below.refl _ _) rfl _ rfl
              case e2_17 =>
                intro wq hbw st  K hK
                have KQ := HB.out.2.2.trans (hbw.mono HB.out.2.2.size)
                simp only [Act.put, List.setIfInBounds_toArray, List.set_cons_zero, List.set_cons_succ] at hK ⊢
                unfold opStep
                rw [if_pos (by rfl)]
                go_simp
                exact hK.out _ _ (Below.refl _ _) rfl _ rfl
              case e2_18 =>
                intro wq hbw st  K hK
                have KQ := HB.out.2.2.trans (hbw.mono HB.out.2.2.size)
                simp only [Act.put, List.setIfInBounds_toArray, List.set_cons_zero, List.set_cons_succ] at hK ⊢
                unfold opStep
                rw [if_pos (by rfl)]
                go_simp
                exact hK.out _ _ (Below.refl _ _) rfl _ rfl
              case e2_19 =>
                intro wq hbw st  K hK
                have KQ := HB.out.2.2.trans (hbw.mono HB.out.2.2.size)
                simp only [Act.put, List.setIfInBounds_toArray, List.set_cons_zero, List.set_cons_succ] at hK ⊢
                unfold opStep
                rw [if_pos (by rfl)]
                go_simp
                exact hK.out _ _ (Below.refl _ _) rfl _ rfl
              case e2_20 =>
                intro wq hbw st  K hK
                have KQ := HB.out.2.2.trans (hbw.mono HB.out.2.2.size)
                simp only [Act.put, List.setIfInBounds_toArray, List.set_cons_zero, List.set_cons_succ] at hK ⊢
                unfold opStep
                rw [if_pos (by rfl)]
                have dd := Lib.hid (HC1.out wq KQ)
                have d0 := dd.out.2.1
                go_simp
                exact hK.out _ _ (Below.refl _ _) rfl _ rfl
              case e2_21 =>
                intro wq hbw st  K hK
                have KQ := HB.out.2.2.trans (hbw.mono HB.out.2.2.size)
                simp only [Act.put, List.setIfInBounds_toArray, List.set_cons_zero, List.set_cons_succ] at hK ⊢
                unfold opStep
                rw [if_pos (by rfl)]
                go_simp
                exact hK.out _ _ (Below.refl _ _) rfl _ rfl
              case e2_22 =>
                intro wq hbw st  K hK
                have KQ := HB.out.2.2.trans (hbw.mono HB.out.2.2.size)
                simp only [Act.put, List.setIfInBounds_toArray, List.set_cons_zero, List.set_cons_succ] at hK ⊢
                unfold opStep
                rw [if_pos (by rfl)]
                have d0 : wq.cell? ⟨w.heap.size + 1, 11, none⟩ = some (.slice (some ⟨b2, o2, none⟩) a.digs.length t411) := (HB.out.2.1.on hbw).cell 11
                go_simp
                exact hK.out _ _ (Below.refl _ _) rfl _ rfl
              case e2_23 =>
                intro wq hbw st  K hK
                have KQ := HB.out.2.2.trans (hbw.mono HB.out.2.2.size)
                simp only [Act.put, List.setIfInBounds_toArray, List.set_cons_zero, List.set_cons_succ] at hK ⊢
                unfold opStep
                rw [if_pos (by rfl)]
                go_simp
                exact hK.out _ _ (Below.refl _ _) rfl _ rfl
              case e2_24 =>
                intro wq hbw st  K hK
                have KQ := HB.out.2.2.trans (hbw.mono HB.out.2.2.size)
                simp only [Act.put, List.setIfInBounds_toArray, List.set_cons_zero, List.set_cons_succ] at hK ⊢
                unfold opStep
                rw [if_pos (by rfl)]
                go_simp
                exact hK.out _ _ (Below.refl _ _) rfl _ rfl
              case e2_25 =>
                intro wq hbw st  K hK
                have KQ := HB.out.2.2.trans (hbw.mono HB.out.2.2.size)
                simp only [Act.put, List.setIfInBounds_toArray, List.set_cons_zero, List.set_cons_succ] at hK ⊢
                unfold opStep
                rw [if_pos (by rfl)]
                go_simp
                exact hK.out _ _ (Below.refl _ _) rfl _ rfl
              case e2_26 =>
                intro wq hbw st  K hK
                have KQ := HB.out.2.2.trans (hbw.mono HB.out.2.2.size)
                simp only [Act.put, List.setIfInBounds_toArray, List.set_cons_zero, List.set_cons_succ] at hK ⊢
                unfold opStep
                rw [if_pos (by rfl)]
                have dd := Lib.hid (HC2.out wq KQ)
                have d0 := dd.out.2.1
                go_simp
                exact hK.out _ _ (Below.refl _ _) rfl _ rfl
              case e2_27 =>
                intro wq hbw st  K hK
                have KQ := HB.out.2.2.trans (hbw.mono HB.out.2.2.size)
                simp only [Act.put, List.setIfInBounds_toArray, List.set_cons_zero, List.set_cons_succ] at hK ⊢
                unfold opStep
                rw [if_pos (by rfl)]
                go_simp
                have hpc := same_bytes _ _ x.sum x.sum wq (HE1.out.1.on KQ) (HE1.out.2.on KQ)
                rw [eqb_same] at hpc
                refine hpc.mono ?_
                rintro e wz ⟨rfl, hbz⟩
                go_simp
                exact hK.out _ _ hbz rfl _ rfl
              case e2_28 =>
                intro wq hbw st  K hK
                have KQ := HB.out.2.2.trans (hbw.mono HB.out.2.2.size)
                simp only [Act.put, List.setIfInBounds_toArray, List.set_cons_zero, List.set_cons_succ] at hK ⊢
                unfold opStep
                rw [if_pos (by rfl)]
                go_simp
                exact hK.out _ _ (Below.refl _ _) rfl _ rfl
              case e2_29 =>
                intro wq hbw st  K hK
                have KQ := HB.out.2.2.trans (hbw.mono HB.out.2.2.size)
                simp only [Act.put, List.setIfInBounds_toArray, List.set_cons_zero, List.set_cons_succ] at hK ⊢
                unfold opStep
                rw [if_pos (by rfl)]
                go_simp
                exact hK.out _ _ (Below.refl _ _) rfl _ rfl
              case e2_30 =>
                intro wq hbw st  K hK
                have KQ := HB.out.2.2.trans (hbw.mono HB.out.2.2.size)
                simp only [Act.put, List.setIfInBounds_toArray, List.set_cons_zero, List.set_cons_succ] at hK ⊢
                unfold opStep
                rw [if_pos (by rfl)]
                go_simp
                exact hK.out _ _ (Below.refl _ _) rfl _ rfl
              case e2_31 =>
                intro wq hbw st  K hK
                have KQ := HB.out.2.2.trans (hbw.mono HB.out.2.2.size)
                simp only [Act.put, List.setIfInBounds_toArray, List.set_cons_zero, List.set_cons_succ] at hK ⊢
                unfold opStep
                rw [if_pos (by rfl)]
                go_simp
                exact hK.out _ _ (Below.refl _ _) rfl _ rfl
              case e2_32 =>
                intro wq hbw st  K hK
                have KQ := HB.out.2.2.trans (hbw.mono HB.out.2.2.size)
                simp only [Act.put, List.setIfInBounds_toArray, List.set_cons_zero, List.set_cons_succ] at hK ⊢
                unfold opStep
                rw [if_pos (by rfl)]
                have d0 : wq.cell? ⟨w.heap.size, 11, none⟩ = some (.slice (some ⟨b1, o1, none⟩) a.digs.length t311) := (HB.out.1.on hbw).cell 11
                go_simp
                exact hK.out _ _ (Below.refl _ _) rfl _ rfl
              case e2_33 =>
                intro wq hbw st  K hK
                have KQ := HB.out.2.2.trans (hbw.mono HB.out.2.2.size)
                simp only [Act.put, List.setIfInBounds_toArray, List.set_cons_zero, List.set_cons_succ] at hK ⊢
                unfold opStep
                rw [if_pos (by rfl)]
                go_simp
                exact hK.out _ _ (Below.refl _ _) rfl _ rfl
              case e2_34 =>
                intro wq hbw st  K hK
                have KQ := HB.out.2.2.trans (hbw.mono HB.out.2.2.size)
                simp only [Act.put, List.setIfInBounds_toArray, List.set_cons_zero, List.set_cons_succ] at hK ⊢
                unfold opStep
                rw [if_pos (by rfl)]
                go_simp
                exact hK.out _ _ (Below.refl _ _) rfl _ rfl
              case e2_35 =>
                intro wq hbw st  K hK
                have KQ := HB.out.2.2.trans (hbw.mono HB.out.2.2.size)
                simp only [Act.put, List.setIfInBounds_toArray, List.set_cons_zero, List.set_cons_succ] at hK ⊢
                unfold opStep
                rw [if_pos (by rfl)]
                go_simp
                exact hK.out _ _ (Below.refl _ _) rfl _ rfl
              case e2_36 =>
                intro wq hbw st  K hK
                have KQ := HB.out.2.2.trans (hbw.mono HB.out.2.2.size)
                simp only [Act.put, List.setIfInBounds_toArray, List.set_cons_zero, List.set_cons_succ] at hK ⊢
                unfold opStep
                rw [if_pos (by rfl)]
                have dd := Lib.hid (HC1.out wq KQ)
                have d0 := dd.out.2.2
                go_simp
                exact hK.out _ _ (Below.refl _ _) rfl _ rfl
              case e2_37 =>
                intro wq hbw st  K hK
                have KQ := HB.out.2.2.trans (hbw.mono HB.out.2.2.size)
                simp only [Act.put, List.setIfInBounds_toArray, List.set_cons_zero, List.set_cons_succ] at hK ⊢
                unfold opStep
                rw [if_pos (by rfl)]
                go_simp
                exact hK.out _ _ (Below.refl _ _) rfl _ rfl
              case e2_38 =>
                intro wq hbw st  K hK
                have KQ := HB.out.2.2.trans (hbw.mono HB.out.2.2.size)
                simp only [Act.put, List.setIfInBounds_toArray, List.set_cons_zero, List.set_cons_succ] at hK ⊢
                unfold opStep
                rw [if_pos (by rfl)]
                have d0 : wq.cell? ⟨w.heap.size + 1, 11, none⟩ = some (.slice (some ⟨b2, o2, none⟩) a.digs.length t411) := (HB.out.2.1.on hbw).cell 11
                go_simp
                exact hK.out _ _ (Below.refl _ _) rfl _ rfl
              case e2_39 =>
                intro wq hbw st  K hK
                have KQ := HB.out.2.2.trans (hbw.mono HB.out.2.2.size)
                simp only [Act.put, List.setIfInBounds_toArray, List.set_cons_zero, List.set_cons_succ] at hK ⊢
                unfold opStep
                rw [if_pos (by rfl)]
                go_simp
                exact hK.out _ _ (Below.refl _ _) rfl _ rfl
              case e2_40 =>
                intro wq hbw st  K hK
                have KQ := HB.out.2.2.trans (hbw.mono HB.out.2.2.size)
                simp only [Act.put, List.setIfInBounds_toArray, List.set_cons_zero, List.set_cons_succ] at hK ⊢
                unfold opStep
                rw [if_pos (by rfl)]
                go_simp
                exact hK.out _ _ (Below.refl _ _) rfl _ rfl
              case e2_41 =>
                intro wq hbw st  K hK
                have KQ := HB.out.2.2.trans (hbw.mono HB.out.2.2.size)
                simp only [Act.put, List.setIfInBounds_toArray, List.set_cons_zero, List.set_cons_succ] at hK ⊢
                unfold opStep
                rw [if_pos (by rfl)]
                go_simp
                exact hK.out _ _ (Below.refl _ _) rfl _ rfl
              case e2_42 =>
                intro wq hbw st  K hK
                have KQ := HB.out.2.2.trans (hbw.mono HB.out.2.2.size)
                simp only [Act.put, List.setIfInBounds_toArray, List.set_cons_zero, List.set_cons_succ] at hK ⊢
                unfold opStep
                rw [if_pos (by rfl)]
                have dd := Lib.hid (HC2.out wq KQ)
                have d0 := dd.out.2.2
                go_simp
                exact hK.out _ _ (Below.refl _ _) rfl _ rfl
              case e2_43 =>
                intro wq hbw st  K hK
                have KQ := HB.out.2.2.trans (hbw.mono HB.out.2.2.size)
                simp only [Act.put, List.setIfInBounds_toArray, List.set_cons_zero, List.set_cons_succ] at hK ⊢
                unfold opStep
                rw [if_pos (by rfl)]
                go_simp
                exact hK.out _ _ (Below.refl _ _) rfl _ rfl
              case e2_44 =>
                intro wq hbw st  K hK
                have KQ := HB.out.2.2.trans (hbw.mono HB.out.2.2.size)
                simp only [Act.put, List.setIfInBounds_toArray, List.set_cons_zero, List.set_cons_succ] at hK ⊢
                unfold opStep
                rw [if_pos (by rfl)]
                go_simp
                exact hK.out _ _ (Below.refl _ _) rfl _ rfl
              case e2_fin =>
                intro wq hbw
                try simp only [FinAll]
                simp only [Act.put, List.setIfInBounds_toArray, List.set_cons_zero, List.set_cons_succ]
                have HB2 := Lib.hid (⟨HB.out.1.on hbw, HB.out.2.1.on hbw, HB.out.2.2.trans (hbw.mono HB.out.2.2.size)⟩ : _ ∧ _ ∧ _)
                clear hbw
                go_wp2
                go_roundg (a.digs.length - (k + 1))
                case measure => have := HM.out; have := HLT.out; omega
                case rel => exact ⟨k + 1, by have := HLT.out; omega, by go_num, HB2.out⟩
            · have hki : ¬ (k : Int) < a.digs.length := by omega
              go_wp2
              clear hki d1 d2 hk hk0 HM
              have HI := Lib.hid HB.out
              clear HB
              go_loopg [8] a.objs.length (fun m i wr => ∃ k : Nat, m + k = a.objs.length ∧ i = .int .i64 k ∧ Blk wr w.heap.size 39 #[.int .i64 a.kind, .int .i64 a.frm, .int .i64 a.to, .int .i64 a.r1, .int .i64 a.r2, .int .i64 a.r3, .slice s36 a.reads.length t36, .slice s37 a.base.length t37, .slice s38 a.state.length t38, .slice s39 a.acks.length t39, .slice s310 a.proof.length t310, .slice s311 a.digs.length t311, .slice s312 a.objs.length t312, .int .i64 a.seq, .slice s314 a.items.length t314] ∧ Blk wr (w.heap.size + 1) 39 #[.int .i64 a.kind, .int .i64 a.frm, .int .i64 a.to, .int .i64 a.r1, .int .i64 a.r2, .int .i64 a.r3, .slice s46 a.reads.length t46, .slice s47 a.base.length t47, .slice s48 a.state.length t48, .slice s49 a.acks.length t49, .slice s410 a.proof.length t410, .slice s411 a.digs.length t411, .slice s412 a.objs.length t412, .int .i64 a.seq, .slice s414 a.items.length t414] ∧ Below w.heap.size w wr)
              case atStart => exact ⟨0, by omega, rfl, HI.out⟩
              case round =>
                rename World => w1
                obtain ⟨k, hmk, rfl, hb⟩ := hrel
                have HM := Lib.hid hmk
                have HB := Lib.hid hb
                have hk : k ≤ a.objs.length := by omega
                have hk0 : (0 : Int) ≤ (k : Int) := by omega
                clear hmk hb
                have d1 : w1.cell? ⟨w.heap.size, 12, none⟩ = some (.slice s312 a.objs.length t312) := HB.out.1.cell 12
                have d2 : w1.cell? ⟨w.heap.size + 1, 12, none⟩ = some (.slice s412 a.objs.length t412) := HB.out.2.1.cell 12
                by_cases hlt : k < a.objs.length
                · have hki : (k : Int) < a.objs.length := by omega
                  obtain ⟨b1, o1, c1, cs1, e1, -, -, hn1, -, g1, q1⟩ := ReadsD.item (f := fun s => [sD s]) HE12.out.1 hlt
                  obtain ⟨b2, o2, c2, cs2, e2, -, -, hn2, -, g2, q2⟩ := ReadsD.item (f := fun s => [sD s]) HE12.out.2 hlt
                  injection e1 with e1 e3 e4
                  injection e2 with e2 e5 e6
                  subst e1 e2
                  clear e3 e4 e5 e6
                  generalize a.objs[k] = x at *
                  have HLT := Lib.hid hlt
                  clear hlt
                  obtain ⟨v10, cs1, rfl, r10, qq10⟩ := CellsD.cons q1
                  clear q1
                  have e10 : v10 = .string (toB x) := r10.s
                  subst e10
                  clear r10
                  have en1 := CellsD.nil qq10
                  subst en1
                  clear qq10
                  obtain ⟨v20, cs2, rfl, r20, qq20⟩ := CellsD.cons q2
                  clear q2
                  have e20 : v20 = .string (toB x) := r20.s
                  subst e20
                  clear r20
                  have en2 := CellsD.nil qq20
                  subst en2
                  clear qq20
                  have HC1 := Lib.hid (fun (wq : World) (hq : Below w.heap.size w wq) => show wq.cell? ⟨b1, o1 + k, none⟩ = some (.string (toB x)) from (by have h := g1 wq hq 0 _ rfl; simpa using h))
                  have HC2 := Lib.hid (fun (wq : World) (hq : Below w.heap.size w wq) => show wq.cell? ⟨b2, o2 + k, none⟩ = some (.string (toB x)) from (by have h := g2 wq hq 0 _ rfl; simpa using h))
                  clear g1 g2
                  clear d1 d2 hk
                  have d1 : w1.cell? ⟨w.heap.size, 12, none⟩ = some (.slice (some ⟨b1, o1, none⟩) a.objs.length t312) := HB.out.1.cell 12
                  go_wp2_with fail
                  refine region_left [.is (.pointer (some ⟨w.heap.size, 12, none⟩)), .is (.slice (some ⟨b1, o1, none⟩) a.objs.length t312), .is (.int .i64 (k : Int)), .is (.pointer (some ⟨b1, o1 + k, none⟩)), .is (.string (toB x)), .is (.pointer (some ⟨w.heap.size + 1, 12, none⟩)), .is (.slice (some ⟨b2, o2, none⟩) a.objs.length t412), .is (.int .i64 (k : Int)), .is (.pointer (some ⟨b2, o2 + k, none⟩)), .is (.string (toB x)), .is (.bool false)] (by kernel_rfl) rfl (by kernel_rfl) (by kernel_rfl) (.cons ?e3_0 (.cons ?e3_1 (.cons ?e3_2 (.cons ?e3_3 (.cons ?e3_4 (.cons ?e3_5 (.cons ?e3_6 (.cons ?e3_7 (.cons ?e3_8 (.cons ?e3_9 (.cons ?e3_10 .nil))))))))))) ?e3_fin
                  case e3_0 =>
                    intro wq hbw st  K hK
                    have KQ := HB.out.2.2.trans (hbw.mono HB.out.2.2.size)
                    simp only [Act.put, List.setIfInBounds_toArray, List.set_cons_zero, List.set_cons_succ] at hK ⊢
                    unfold opStep
                    rw [if_pos (by rfl)]
                    go_simp
                    exact hK.out _ _ (Below.refl _ _) rfl _ rfl
                  case e3_1 =>
                    intro wq hbw st  K hK
                    have KQ := HB.out.2.2.trans (hbw.mono HB.out.2.2.size)
                    simp only [Act.put, List.setIfInBounds_toArray, List.set_cons_zero, List.set_cons_succ] at hK ⊢
                    unfold opStep
                    rw [if_pos (by rfl)]
                    have d0 : wq.cell? ⟨w.heap.size, 12, none⟩ = some (.slice (some ⟨b1, o1, none⟩) a.objs.length t312) := (HB.out.1.on hbw).cell 12
                    go_simp
                    exact hK.out _ _ (Below.refl _ _) rfl _ rfl
                  case e3_2 =>
                    intro wq hbw st  K hK
                    have KQ := HB.out.2.2.trans (hbw.mono HB.out.2.2.size)
                    simp only [Act.put, List.setIfInBounds_toArray, List.set_cons_zero, List.set_cons_succ] at hK ⊢
                    unfold opStep
                    rw [if_pos (by rfl)]
                    go_simp
                    exact hK.out _ _ (Below.refl _ _) rfl _ rfl
                  case e3_3 =>
                    intro wq hbw st  K hK
                    have KQ := HB.out.2.2.trans (hbw.mono HB.out.2.2.size)
                    simp only [Act.put, List.setIfInBounds_toArray, List.set_cons_zero, List.set_cons_succ] at hK ⊢
                    unfold opStep
                    rw [if_pos (by rfl)]
                    go_simp
                    exact hK.out _ _ (Below.refl _ _) rfl _ rfl
                  case e3_4 =>
                    intro wq hbw st  K hK
                    have KQ := HB.out.2.2.trans (hbw.mono HB.out.2.2.size)
                    simp only [Act.put, List.setIfInBounds_toArray, List.set_cons_zero, List.set_cons_succ] at hK ⊢
                    unfold opStep
                    rw [if_pos (by rfl)]
                    have dd := Lib.hid (HC1.out wq KQ)
                    have d0 := dd.out
                    go_simp
                    exact hK.out _ _ (Below.refl _ _) rfl _ rfl
                  case e3_5 =>
                    intro wq hbw st  K hK
                    have KQ := HB.out.2.2.trans (hbw.mono HB.out.2.2.size)
                    simp only [Act.put, List.setIfInBounds_toArray, List.set_cons_zero, List.set_cons_succ] at hK ⊢
                    unfold opStep
                    rw [if_pos (by rfl)]
                    go_simp
                    exact hK.out _ _ (Below.refl _ _) rfl _ rfl
                  case e3_6 =>
                    intro wq hbw st  K hK
                    have KQ := HB.out.2.2.trans (hbw.mono HB.out.2.2.size)
                    simp only [Act.put, List.setIfInBounds_toArray, List.set_cons_zero, List.set_cons_succ] at hK ⊢
                    unfold opStep
                    rw [if_pos (by rfl)]
                    have d0 : wq.cell? ⟨w.heap.size + 1, 12, none⟩ = some (.slice (some ⟨b2, o2, none⟩) a.objs.length t412) := (HB.out.2.1.on hbw).cell 12
                    go_simp
                    exact hK.out _ _ (Below.refl _ _) rfl _ rfl
                  case e3_7 =>
                    intro wq hbw st  K hK
                    have KQ := HB.out.2.2.trans (hbw.mono HB.out.2.2.size)
                    simp only [Act.put, List.setIfInBounds_toArray, List.set_cons_zero, List.set_cons_succ] at hK ⊢
                    unfold opStep
                    rw [if_pos (by rfl)]
                    go_simp
                    exact hK.out _ _ (Below.refl _ _) rfl _ rfl
                  case e3_8 =>
                    intro wq hbw st  K hK
                    have KQ := HB.out.2.2.trans (hbw.mono HB.out.2.2.size)
                    simp only [Act.put, List.setIfInBounds_toArray, List.set_cons_zero, List.set_cons_succ] at hK ⊢
                    unfold opStep
                    rw [if_pos (by rfl)]
                    go_simp
                    exact hK.out _ _ (Below.refl _ _) rfl _ rfl
                  case e3_9 =>
                    intro wq hbw st  K hK
                    have KQ := HB.out.2.2.trans (hbw.mono HB.out.2.2.size)
                    simp only [Act.put, List.setIfInBounds_toArray, List.set_cons_zero, List.set_cons_succ] at hK ⊢
                    unfold opStep
                    rw [if_pos (by rfl)]
                    have dd := Lib.hid (HC2.out wq KQ)
                    have d0 := dd.out
                    go_simp
                    exact hK.out _ _ (Below.refl _ _) rfl _ rfl
                  case e3_10 =>
                    intro wq hbw st  K hK
                    have KQ := HB.out.2.2.trans (hbw.mono HB.out.2.2.size)
                    simp only [Act.put, List.setIfInBounds_toArray, List.set_cons_zero, List.set_cons_succ] at hK ⊢
                    unfold opStep
                    rw [if_pos (by rfl)]
                    go_simp
                    exact hK.out _ _ (Below.refl _ _) rfl _ rfl
                  case e3_fin =>
                    intro wq hbw
                    try simp only [FinAll]
                    simp only [Act.put, List.setIfInBounds_toArray, List.set_cons_zero, List.set_cons_succ]
                    have HB2 := Lib.hid (⟨HB.out.1.on hbw, HB.out.2.1.on hbw, HB.out.2.2.trans (hbw.mono HB.out.2.2.size)⟩ : _ ∧ _ ∧ _)
                    clear hbw
                    go_wp2
                    go_roundg (a.objs.length - (k + 1))
                    case measure => have := HM.out; have := HLT.out; omega
                    case rel => exact ⟨k + 1, by have := HLT.out; omega, by go_num, HB2.out⟩
                · have hki : ¬ (k : Int) < a.objs.length := by omega
                  go_wp2
                  clear hki d1 d2 hk hk0 HM
                  have HI := Lib.hid HB.out
                  clear HB
                  go_loopg [9] a.items.length (fun m i wr => ∃ k : Nat, m + k = a.items.length ∧ i = .int .i64 k ∧ Blk wr w.heap.size 39 #[.int .i64 a.kind, .int .i64 a.frm, .int .i64 a.to, .int .i64 a.r1, .int .i64 a.r2, .int .i64 a.r3, .slice s36 a.reads.length t36, .slice s37 a.base.length t37, .slice s38 a.state.length t38, .slice s39 a.acks.length t39, .slice s310 a.proof.length t310, .slice s311 a.digs.length t311, .slice s312 a.objs.length t312, .int .i64 a.seq, .slice s314 a.items.length t314] ∧ Blk wr (w.heap.size + 1) 39 #[.int .i64 a.kind, .int .i64 a.frm, .int .i64 a.to, .int .i64 a.r1, .int .i64 a.r2, .int .i64 a.r3, .slice s46 a.reads.length t46, .slice s47 a.base.length t47, .slice s48 a.state.length t48, .slice s49 a.acks.length t49, .slice s410 a.proof.length t410, .slice s411 a.digs.length t411, .slice s412 a.objs.length t412, .int .i64 a.seq, .slice s414 a.items.length t414] ∧ Below w.heap.size w wr)
                  case atStart => exact ⟨0, by omega, rfl, HI.out⟩
                  case round =>
                    rename World => w1
                    obtain ⟨k, hmk, rfl, hb⟩ := hrel
                    have HM := Lib.hid hmk
                    have HB := Lib.hid hb
                    have hk : k ≤ a.items.length := by omega
                    have hk0 : (0 : Int) ≤ (k : Int) := by omega
                    clear hmk hb
                    have d1 : w1.cell? ⟨w.heap.size, 14, none⟩ = some (.slice s314 a.items.length t314) := HB.out.1.cell 14
                    have d2 : w1.cell? ⟨w.heap.size + 1, 14, none⟩ = some (.slice s414 a.items.length t414) := HB.out.2.1.cell 14
                    by_cases hlt : k < a.items.length
                    · have hki : (k : Int) < a.items.length := by omega
                      obtain ⟨b1, o1, c1, cs1, e1, -, -, hn1, -, g1, q1⟩ := ReadsD.item (f := itemD) HE14.out.1 hlt
                      obtain ⟨b2, o2, c2, cs2, e2, -, -, hn2, -, g2, q2⟩ := ReadsD.item (f := itemD) HE14.out.2 hlt
                      injection e1 with e1 e3 e4
                      injection e2 with e2 e5 e6
                      subst e1 e2
                      clear e3 e4 e5 e6
                      generalize a.items[k] = x at *
                      have HLT := Lib.hid hlt
                      clear hlt
                      have HC1 := Lib.hid g1
                      have HC2 := Lib.hid g2
                      have HQ := Lib.hid (And.intro q1 q2)
                      have HL := Lib.hid (And.intro hn1 hn2)
                      clear g1 g2 q1 q2 hn1 hn2
                      clear d1 d2 hk
                      have d1 : w1.cell? ⟨w.heap.size, 14, none⟩ = some (.slice (some ⟨b1, o1, none⟩) a.items.length t314) := HB.out.1.cell 14
                      go_wp2_with fail
                      refine region_left [.is (.pointer (some ⟨w.heap.size, 14, none⟩)), .is (.slice (some ⟨b1, o1, none⟩) a.items.length t314), .is (.int .i64 (k : Int)), .is (.pointer (some ⟨b1, o1 + k * 4, none⟩)), .is (.agg cs1.toArray), .is (.pointer (some ⟨w.heap.size + 1, 14, none⟩)), .is (.slice (some ⟨b2, o2, none⟩) a.items.length t414), .is (.int .i64 (k : Int)), .is (.pointer (some ⟨b2, o2 + k * 4, none⟩)), .is (.agg cs2.toArray), .is (.bool true), .is (.bool false)] (by kernel_rfl) rfl (by kernel_rfl) (by kernel_rfl) (.cons ?e4_0 (.cons ?e4_1 (.cons ?e4_2 (.cons ?e4_3 (.cons ?e4_4 (.cons ?e4_5 (.cons ?e4_6 (.cons ?e4_7 (.cons ?e4_8 (.cons ?e4_9 (.cons ?e4_10 (.cons ?e4_11 .nil)))))))))))) ?e4_fin
                      case e4_0 =>
                        intro wq hbw st  K hK
                        have KQ := HB.out.2.2.trans (hbw.mono HB.out.2.2.size)
                        simp only [Act.put, List.setIfInBounds_toArray, List.set_cons_zero, List.set_cons_succ] at hK ⊢
                        unfold opStep
                        rw [if_pos (by rfl)]
                        go_simp
                        exact hK.out _ _ (Below.refl _ _) rfl _ rfl
                      case e4_1 =>
                        intro wq hbw st  K hK
                        have KQ := HB.out.2.2.trans (hbw.mono HB.out.2.2.size)
                        simp only [Act.put, List.setIfInBounds_toArray, List.set_cons_zero, List.set_cons_succ] at hK ⊢
                        unfold opStep
                        rw [if_pos (by rfl)]
                        have d0 : wq.cell? ⟨w.heap.size, 14, none⟩ = some (.slice (some ⟨b1, o1, none⟩) a.items.length t314) := (HB.out.1.on hbw).cell 14
                        go_simp
                        exact hK.out _ _ (Below.refl _ _) rfl _ rfl
                      case e4_2 =>
                        intro wq hbw st  K hK
                        have KQ := HB.out.2.2.trans (hbw.mono HB.out.2.2.size)
                        simp only [Act.put, List.setIfInBounds_toArray, List.set_cons_zero, List.set_cons_succ] at hK ⊢
                        unfold opStep
                        rw [if_pos (by rfl)]
                        go_simp
                        exact hK.out _ _ (Below.refl _ _) rfl _ rfl
                      case e4_3 =>
                        intro wq hbw st  K hK
                        have KQ := HB.out.2.2.trans (hbw.mono HB.out.2.2.size)
                        simp only [Act.put, List.setIfInBounds_toArray, List.set_cons_zero, List.set_cons_succ] at hK ⊢
                        unfold opStep
                        rw [if_pos (by rfl)]
                        go_simp
                        exact hK.out _ _ (Below.refl _ _) rfl _ rfl
                      case e4_4 =>
                        intro wq hbw st  K hK
                        have KQ := HB.out.2.2.trans (hbw.mono HB.out.2.2.size)
                        simp only [Act.put, List.setIfInBounds_toArray, List.set_cons_zero, List.set_cons_succ] at hK ⊢
                        unfold opStep
                        rw [if_pos (by rfl)]
                        refine wp_load_mid 95 (.tmp 226) (by rfl) b1 (o1 + k * 4) (by rfl) cs1 _ (HC1.out wq KQ) Try.underlying95 (by rfl) (by rw [HL.out.1]; kernel_rfl) ?_
                        exact hK.out _ _ (Below.refl _ _) rfl _ rfl
                      case e4_5 =>
                        intro wq hbw st  K hK
                        have KQ := HB.out.2.2.trans (hbw.mono HB.out.2.2.size)
                        simp only [Act.put, List.setIfInBounds_toArray, List.set_cons_zero, List.set_cons_succ] at hK ⊢
                        unfold opStep
                        rw [if_pos (by rfl)]
                        go_simp
                        exact hK.out _ _ (Below.refl _ _) rfl _ rfl
                      case e4_6 =>
                        intro wq hbw st  K hK
                        have KQ := HB.out.2.2.trans (hbw.mono HB.out.2.2.size)
                        simp only [Act.put, List.setIfInBounds_toArray, List.set_cons_zero, List.set_cons_succ] at hK ⊢
                        unfold opStep
                        rw [if_pos (by rfl)]
                        have d0 : wq.cell? ⟨w.heap.size + 1, 14, none⟩ = some (.slice (some ⟨b2, o2, none⟩) a.items.length t414) := (HB.out.2.1.on hbw).cell 14
                        go_simp
                        exact hK.out _ _ (Below.refl _ _) rfl _ rfl
                      case e4_7 =>
                        intro wq hbw st  K hK
                        have KQ := HB.out.2.2.trans (hbw.mono HB.out.2.2.size)
                        simp only [Act.put, List.setIfInBounds_toArray, List.set_cons_zero, List.set_cons_succ] at hK ⊢
                        unfold opStep
                        rw [if_pos (by rfl)]
                        go_simp
                        exact hK.out _ _ (Below.refl _ _) rfl _ rfl
                      case e4_8 =>
                        intro wq hbw st  K hK
                        have KQ := HB.out.2.2.trans (hbw.mono HB.out.2.2.size)
                        simp only [Act.put, List.setIfInBounds_toArray, List.set_cons_zero, List.set_cons_succ] at hK ⊢
                        unfold opStep
                        rw [if_pos (by rfl)]
                        go_simp
                        exact hK.out _ _ (Below.refl _ _) rfl _ rfl
                      case e4_9 =>
                        intro wq hbw st  K hK
                        have KQ := HB.out.2.2.trans (hbw.mono HB.out.2.2.size)
                        simp only [Act.put, List.setIfInBounds_toArray, List.set_cons_zero, List.set_cons_succ] at hK ⊢
                        unfold opStep
                        rw [if_pos (by rfl)]
                        refine wp_load_mid 95 (.tmp 231) (by rfl) b2 (o2 + k * 4) (by rfl) cs2 _ (HC2.out wq KQ) Try.underlying95 (by rfl) (by rw [HL.out.2]; kernel_rfl) ?_
                        exact hK.out _ _ (Below.refl _ _) rfl _ rfl
                      case e4_10 =>
                        intro wq hbw st  K hK
                        have KQ := HB.out.2.2.trans (hbw.mono HB.out.2.2.size)
                        simp only [Act.put, List.setIfInBounds_toArray, List.set_cons_zero, List.set_cons_succ] at hK ⊢
                        unfold opStep
                        rw [if_pos (by rfl)]
                        go_simp
                        have hpc := same_item cs1 cs2 x wq (HQ.out.1.on KQ) (HQ.out.2.on KQ)
                        refine hpc.mono ?_
                        rintro e wz ⟨rfl, hbz⟩
                        go_simp
                        exact hK.out _ _ hbz rfl _ rfl
                      case e4_11 =>
                        intro wq hbw st  K hK
                        have KQ := HB.out.2.2.trans (hbw.mono HB.out.2.2.size)
                        simp only [Act.put, List.setIfInBounds_toArray, List.set_cons_zero, List.set_cons_succ] at hK ⊢
                        unfold opStep
                        rw [if_pos (by rfl)]
                        go_simp
                        exact hK.out _ _ (Below.refl _ _) rfl _ rfl
                      case e4_fin =>
                        intro wq hbw
                        try simp only [FinAll]
                        simp only [Act.put, List.setIfInBounds_toArray, List.set_cons_zero, List.set_cons_succ]
                        have HB2 := Lib.hid (⟨HB.out.1.on hbw, HB.out.2.1.on hbw, HB.out.2.2.trans (hbw.mono HB.out.2.2.size)⟩ : _ ∧ _ ∧ _)
                        clear hbw
                        go_wp2
                        go_roundg (a.items.length - (k + 1))
                        case measure => have := HM.out; have := HLT.out; omega
                        case rel => exact ⟨k + 1, by have := HLT.out; omega, by go_num, HB2.out⟩
                    · have hki : ¬ (k : Int) < a.items.length := by omega
                      go_wp2
                      go_ret
                      exact ⟨rfl, HB.out.2.2⟩
end Go.Proofs.Ytmcdmcnbnnfhnaa
