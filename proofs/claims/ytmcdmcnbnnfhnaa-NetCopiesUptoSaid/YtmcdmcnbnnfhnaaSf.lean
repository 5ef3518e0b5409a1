/-
  Chapter 28: equal claims are told equal (the reference).
-/
import Derived.Test.YtmcdmcnbnnfhnaaSe
import Derived.Test.YtmcdmcnbnnfhnaaSb
import Derived.Deep.MidRow
namespace Go.Proofs.Ytmcdmcnbnnfhnaa
open Go.RowKit
attribute [local go_sem] run_eq_round

theorem eqb_same {α : Type} (a : α) : eqb a a = true := eqb_pos rfl
def claimD (x : ClaimM) : List DV := [iD x.r1, iD x.r2, iD x.r3, ridsD x.reads, cmdsD x.base, cmdsD x.conf, iD x.count, bytesD x.root]
theorem certD_eq (x : CertM) : certD x = claimD x.claim ++ [acksD x.acks] := rfl
theorem round_size : (Try.prog.info? 29).map (·.size) = some 3 := by kernel_rfl
set_option maxRecDepth 100000 in
set_option maxHeartbeats 4000000 in
theorem same_claim {P P' : Nat → Prop} (cs us : List Value) (a : ClaimM) (w : World) (hv : CellsD P w cs (claimD a)) (hu : CellsD P' w us (claimD a)) : Calls Try.prog 83 #[.agg cs.toArray, .agg us.toArray] w (BoolMade w true) := by
  obtain ⟨v30, cs3, rfl, r30, qq30⟩ := CellsD.cons hv
  clear hv
  have e30 := r30.i
  subst e30
  clear r30
  obtain ⟨v31, cs3, rfl, r31, qq31⟩ := CellsD.cons qq30
  clear qq30
  have e31 := r31.i
  subst e31
  clear r31
  obtain ⟨v32, cs3, rfl, r32, qq32⟩ := CellsD.cons qq31
  clear qq31
  have e32 := r32.i
  subst e32
  clear r32
  obtain ⟨v33, cs3, rfl, r33, qq33⟩ := CellsD.cons qq32
  clear qq32
  obtain ⟨s33, t33, rfl, -, -, -, hL33⟩ := ReadsD.slcM (f := ridD) r33
  obtain ⟨v34, cs3, rfl, r34, qq34⟩ := CellsD.cons qq33
  clear qq33
  obtain ⟨s34, t34, rfl, -, -, -, hL34⟩ := ReadsD.slcM (f := cmdD) r34
  obtain ⟨v35, cs3, rfl, r35, qq35⟩ := CellsD.cons qq34
  clear qq34
  obtain ⟨s35, t35, rfl, -, -, -, hL35⟩ := ReadsD.slcM (f := cmdD) r35
  obtain ⟨v36, cs3, rfl, r36, qq36⟩ := CellsD.cons qq35
  clear qq35
  have e36 := r36.i
  subst e36
  clear r36
  obtain ⟨v37, cs3, rfl, r37, qq37⟩ := CellsD.cons qq36
  clear qq36
  obtain ⟨s37, t37, rfl, -⟩ := r37.bslc
  have en3 := CellsD.nil qq37
  subst en3
  clear qq37
  obtain ⟨v40, cs4, rfl, r40, qq40⟩ := CellsD.cons hu
  clear hu
  have e40 := r40.i
  subst e40
  clear r40
  obtain ⟨v41, cs4, rfl, r41, qq41⟩ := CellsD.cons qq40
  clear qq40
  have e41 := r41.i
  subst e41
  clear r41
  obtain ⟨v42, cs4, rfl, r42, qq42⟩ := CellsD.cons qq41
  clear qq41
  have e42 := r42.i
  subst e42
  clear r42
  obtain ⟨v43, cs4, rfl, r43, qq43⟩ := CellsD.cons qq42
  clear qq42
  obtain ⟨s43, t43, rfl, -, -, -, hL43⟩ := ReadsD.slcM (f := ridD) r43
  obtain ⟨v44, cs4, rfl, r44, qq44⟩ := CellsD.cons qq43
  clear qq43
  obtain ⟨s44, t44, rfl, -, -, -, hL44⟩ := ReadsD.slcM (f := cmdD) r44
  obtain ⟨v45, cs4, rfl, r45, qq45⟩ := CellsD.cons qq44
  clear qq44
  obtain ⟨s45, t45, rfl, -, -, -, hL45⟩ := ReadsD.slcM (f := cmdD) r45
  obtain ⟨v46, cs4, rfl, r46, qq46⟩ := CellsD.cons qq45
  clear qq45
  have e46 := r46.i
  subst e46
  clear r46
  obtain ⟨v47, cs4, rfl, r47, qq47⟩ := CellsD.cons qq46
  clear qq46
  obtain ⟨s47, t47, rfl, -⟩ := r47.bslc
  have en4 := CellsD.nil qq47
  subst en4
  clear qq47
  have HE3 := Lib.hid (And.intro r33 r43)
  clear r33 r43
  have HE4 := Lib.hid (And.intro r34 r44)
  clear r34 r44
  have HE5 := Lib.hid (And.intro r35 r45)
  clear r35 r45
  have HE7 := Lib.hid (And.intro r37 r47)
  clear r37 r47
  go_enter Try.func83, Try.ntmps83
  go_upto_region 1 with fail
  have HB := Lib.hid (two_boxes w 85 #[.int .i64 a.r1, .int .i64 a.r2, .int .i64 a.r3, .slice s33 a.reads.length t33, .slice s34 a.base.length t34, .slice s35 a.conf.length t35, .int .i64 a.count, .slice s37 a.root.length t37] #[.int .i64 a.r1, .int .i64 a.r2, .int .i64 a.r3, .slice s43 a.reads.length t43, .slice s44 a.base.length t44, .slice s45 a.conf.length t45, .int .i64 a.count, .slice s47 a.root.length t47])
  generalize hw0 : World.alloc (World.alloc w _) _ = w0 at HB ⊢
  clear hw0
  have HRG1 := Lib.hid (show w0.rangeAt (w.heap.size) 0 [.int .i64 a.r1, .int .i64 a.r2, .int .i64 a.r3] from fun q u hu => by
    have h := HB.out.1.cell q
    rw [Nat.zero_add]
    match q, hu with
    | 0, hu => exact h.trans hu
    | 1, hu => exact h.trans hu
    | 2, hu => exact h.trans hu)
  have HRG2 := Lib.hid (show w0.rangeAt (w.heap.size + 1) 0 [.int .i64 a.r1, .int .i64 a.r2, .int .i64 a.r3] from fun q u hu => by
    have h := HB.out.2.1.cell q
    rw [Nat.zero_add]
    match q, hu with
    | 0, hu => exact h.trans hu
    | 1, hu => exact h.trans hu
    | 2, hu => exact h.trans hu)
  have nn0 : ((a.r1 == a.r1) && ((a.r2 == a.r2) && (a.r3 == a.r3))) = true := by simp
  have d13 : w0.cell? ⟨w.heap.size, 3, none⟩ = some (.slice s33 a.reads.length t33) := HB.out.1.cell 3
  have d23 : w0.cell? ⟨w.heap.size + 1, 3, none⟩ = some (.slice s43 a.reads.length t43) := HB.out.2.1.cell 3
  have HCL := Lib.hid (same_reads _ _ a.reads a.reads w0 (HE3.out.1.on HB.out.2.2) (HE3.out.2.on HB.out.2.2))
  rw [eqb_same] at HCL
  go_wp2_with (first | (refine wpList_load_mid rfl 29 (.tmp 5) rfl (w.heap.size) 0 rfl _ _ HRG1.out Try.underlying29 rfl round_size ?_) | (refine wpList_load_mid rfl 29 (.tmp 7) rfl (w.heap.size + 1) 0 rfl _ _ HRG2.out Try.underlying29 rfl round_size ?_))
  refine HCL.out.mono ?_
  rintro e w1 ⟨rfl, hb1⟩
  have HB1 := Lib.hid (⟨HB.out.1.on hb1, HB.out.2.1.on hb1, HB.out.2.2.trans (hb1.mono HB.out.2.2.size)⟩ : Blk w1 w.heap.size 85 #[.int .i64 a.r1, .int .i64 a.r2, .int .i64 a.r3, .slice s33 a.reads.length t33, .slice s34 a.base.length t34, .slice s35 a.conf.length t35, .int .i64 a.count, .slice s37 a.root.length t37] ∧ Blk w1 (w.heap.size + 1) 85 #[.int .i64 a.r1, .int .i64 a.r2, .int .i64 a.r3, .slice s43 a.reads.length t43, .slice s44 a.base.length t44, .slice s45 a.conf.length t45, .int .i64 a.count, .slice s47 a.root.length t47] ∧ Below w.heap.size w w1)
  clear HCL HB hb1 d13 d23 HRG1 HRG2 nn0
  have d14 : w1.cell? ⟨w.heap.size, 4, none⟩ = some (.slice s34 a.base.length t34) := HB1.out.1.cell 4
  have d24 : w1.cell? ⟨w.heap.size + 1, 4, none⟩ = some (.slice s44 a.base.length t44) := HB1.out.2.1.cell 4
  have HCL := Lib.hid (same_commands _ _ a.base a.base w1 (HE4.out.1.on HB1.out.2.2) (HE4.out.2.on HB1.out.2.2))
  rw [eqb_same] at HCL
  go_wp2_with fail
  refine HCL.out.mono ?_
  rintro e w2 ⟨rfl, hb1⟩
  have HB2 := Lib.hid (⟨HB1.out.1.on hb1, HB1.out.2.1.on hb1, HB1.out.2.2.trans (hb1.mono HB1.out.2.2.size)⟩ : Blk w2 w.heap.size 85 #[.int .i64 a.r1, .int .i64 a.r2, .int .i64 a.r3, .slice s33 a.reads.length t33, .slice s34 a.base.length t34, .slice s35 a.conf.length t35, .int .i64 a.count, .slice s37 a.root.length t37] ∧ Blk w2 (w.heap.size + 1) 85 #[.int .i64 a.r1, .int .i64 a.r2, .int .i64 a.r3, .slice s43 a.reads.length t43, .slice s44 a.base.length t44, .slice s45 a.conf.length t45, .int .i64 a.count, .slice s47 a.root.length t47] ∧ Below w.heap.size w w2)
  clear HCL HB1 hb1 d14 d24
  have d15 : w2.cell? ⟨w.heap.size, 5, none⟩ = some (.slice s35 a.conf.length t35) := HB2.out.1.cell 5
  have d25 : w2.cell? ⟨w.heap.size + 1, 5, none⟩ = some (.slice s45 a.conf.length t45) := HB2.out.2.1.cell 5
  have HCL := Lib.hid (same_commands _ _ a.conf a.conf w2 (HE5.out.1.on HB2.out.2.2) (HE5.out.2.on HB2.out.2.2))
  rw [eqb_same] at HCL
  go_wp2_with fail
  refine HCL.out.mono ?_
  rintro e w3 ⟨rfl, hb1⟩
  have HB3 := Lib.hid (⟨HB2.out.1.on hb1, HB2.out.2.1.on hb1, HB2.out.2.2.trans (hb1.mono HB2.out.2.2.size)⟩ : Blk w3 w.heap.size 85 #[.int .i64 a.r1, .int .i64 a.r2, .int .i64 a.r3, .slice s33 a.reads.length t33, .slice s34 a.base.length t34, .slice s35 a.conf.length t35, .int .i64 a.count, .slice s37 a.root.length t37] ∧ Blk w3 (w.heap.size + 1) 85 #[.int .i64 a.r1, .int .i64 a.r2, .int .i64 a.r3, .slice s43 a.reads.length t43, .slice s44 a.base.length t44, .slice s45 a.conf.length t45, .int .i64 a.count, .slice s47 a.root.length t47] ∧ Below w.heap.size w w3)
  clear HCL HB2 hb1 d15 d25
  have d17 : w3.cell? ⟨w.heap.size, 7, none⟩ = some (.slice s37 a.root.length t37) := HB3.out.1.cell 7
  have d27 : w3.cell? ⟨w.heap.size + 1, 7, none⟩ = some (.slice s47 a.root.length t47) := HB3.out.2.1.cell 7
  have d16 : w3.cell? ⟨w.heap.size, 6, none⟩ = some (.int .i64 a.count) := HB3.out.1.cell 6
  have d26 : w3.cell? ⟨w.heap.size + 1, 6, none⟩ = some (.int .i64 a.count) := HB3.out.2.1.cell 6
  have HCL := Lib.hid (same_bytes _ _ a.root a.root w3 (HE7.out.1.on HB3.out.2.2) (HE7.out.2.on HB3.out.2.2))
  rw [eqb_same] at HCL
  go_wp2_with fail
  refine HCL.out.mono ?_
  rintro e w4 ⟨rfl, hb1⟩
  have HB4 := Lib.hid (⟨HB3.out.1.on hb1, HB3.out.2.1.on hb1, HB3.out.2.2.trans (hb1.mono HB3.out.2.2.size)⟩ : Blk w4 w.heap.size 85 #[.int .i64 a.r1, .int .i64 a.r2, .int .i64 a.r3, .slice s33 a.reads.length t33, .slice s34 a.base.length t34, .slice s35 a.conf.length t35, .int .i64 a.count, .slice s37 a.root.length t37] ∧ Blk w4 (w.heap.size + 1) 85 #[.int .i64 a.r1, .int .i64 a.r2, .int .i64 a.r3, .slice s43 a.reads.length t43, .slice s44 a.base.length t44, .slice s45 a.conf.length t45, .int .i64 a.count, .slice s47 a.root.length t47] ∧ Below w.heap.size w w4)
  clear HCL HB3 hb1 d17 d27 d16 d26
  go_wp2_with fail
  go_ret
  exact ⟨rfl, HB4.out.2.2⟩
end Go.Proofs.Ytmcdmcnbnnfhnaa
