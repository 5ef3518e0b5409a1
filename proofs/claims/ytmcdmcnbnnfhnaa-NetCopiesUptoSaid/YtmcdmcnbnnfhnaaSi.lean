/-
  Chapter 28: equal proofs are told equal (the reference).
-/
import Derived.Test.YtmcdmcnbnnfhnaaSh
namespace Go.Proofs.Ytmcdmcnbnnfhnaa
open Go.RowKit
set_option maxRecDepth 100000 in
set_option maxHeartbeats 4000000 in
theorem same_proof {P P' : Nat → Prop} (cs us : List Value) (a : ProofM) (w : World) (hv : CellsD P w cs (proofD a)) (hu : CellsD P' w us (proofD a)) : Calls Try.prog 39 #[.agg cs.toArray, .agg us.toArray] w (BoolMade w true) := by
  obtain ⟨v30, cs3, rfl, r30, qq30⟩ := CellsD.cons hv
  clear hv
  obtain ⟨s30, t30, rfl, -, -, -, hL30⟩ := ReadsD.slcM (f := certD) r30
  obtain ⟨v31, cs3, rfl, r31, qq31⟩ := CellsD.cons qq30
  clear qq30
  have e31 := r31.i
  subst e31
  clear r31
  obtain ⟨v32, cs3, rfl, r32, qq32⟩ := CellsD.cons qq31
  clear qq31
  have e32 := r32.i
  subst e32
  clear r32
  obtain ⟨v33, cs3, rfl, r33, qq33⟩ := CellsD.cons qq32
  clear qq32
  have e33 := r33.i
  subst e33
  clear r33
  obtain ⟨v34, cs3, rfl, r34, qq34⟩ := CellsD.cons qq33
  clear qq33
  obtain ⟨s34, t34, rfl, -, -, -, hL34⟩ := ReadsD.slcM (f := ridD) r34
  obtain ⟨v35, cs3, rfl, r35, qq35⟩ := CellsD.cons qq34
  clear qq34
  obtain ⟨s35, t35, rfl, -, -, -, hL35⟩ := ReadsD.slcM (f := cmdD) r35
  obtain ⟨v36, cs3, rfl, r36, qq36⟩ := CellsD.cons qq35
  clear qq35
  obtain ⟨s36, t36, rfl, -, -, -, hL36⟩ := ReadsD.slcM (f := cmdD) r36
  obtain ⟨v37, cs3, rfl, r37, qq37⟩ := CellsD.cons qq36
  clear qq36
  have e37 := r37.i
  subst e37
  clear r37
  obtain ⟨v38, cs3, rfl, r38, qq38⟩ := CellsD.cons qq37
  clear qq37
  obtain ⟨s38, t38, rfl, -⟩ := r38.bslc
  obtain ⟨v39, cs3, rfl, r39, qq39⟩ := CellsD.cons qq38
  clear qq38
  obtain ⟨s39, t39, rfl, -, -, -, hL39⟩ := ReadsD.slcM (f := ackD) r39
  have en3 := CellsD.nil qq39
  subst en3
  clear qq39
  obtain ⟨v40, cs4, rfl, r40, qq40⟩ := CellsD.cons hu
  clear hu
  obtain ⟨s40, t40, rfl, -, -, -, hL40⟩ := ReadsD.slcM (f := certD) r40
  obtain ⟨v41, cs4, rfl, r41, qq41⟩ := CellsD.cons qq40
  clear qq40
  have e41 := r41.i
  subst e41
  clear r41
  obtain ⟨v42, cs4, rfl, r42, qq42⟩ := CellsD.cons qq41
  clear qq41
  have e42 := r42.i
  subst e42
  clear r42
  obtain ⟨v43, cs4, rfl, r43, qq43⟩ := CellsD.cons qq42
  clear qq42
  have e43 := r43.i
  subst e43
  clear r43
  obtain ⟨v44, cs4, rfl, r44, qq44⟩ := CellsD.cons qq43
  clear qq43
  obtain ⟨s44, t44, rfl, -, -, -, hL44⟩ := ReadsD.slcM (f := ridD) r44
  obtain ⟨v45, cs4, rfl, r45, qq45⟩ := CellsD.cons qq44
  clear qq44
  obtain ⟨s45, t45, rfl, -, -, -, hL45⟩ := ReadsD.slcM (f := cmdD) r45
  obtain ⟨v46, cs4, rfl, r46, qq46⟩ := CellsD.cons qq45
  clear qq45
  obtain ⟨s46, t46, rfl, -, -, -, hL46⟩ := ReadsD.slcM (f := cmdD) r46
  obtain ⟨v47, cs4, rfl, r47, qq47⟩ := CellsD.cons qq46
  clear qq46
  have e47 := r47.i
  subst e47
  clear r47
  obtain ⟨v48, cs4, rfl, r48, qq48⟩ := CellsD.cons qq47
  clear qq47
  obtain ⟨s48, t48, rfl, -⟩ := r48.bslc
  obtain ⟨v49, cs4, rfl, r49, qq49⟩ := CellsD.cons qq48
  clear qq48
  obtain ⟨s49, t49, rfl, -, -, -, hL49⟩ := ReadsD.slcM (f := ackD) r49
  have en4 := CellsD.nil qq49
  subst en4
  clear qq49
  have HE0 := Lib.hid (And.intro r30 r40)
  clear r30 r40
  have HE4 := Lib.hid (And.intro r34 r44)
  clear r34 r44
  have HE5 := Lib.hid (And.intro r35 r45)
  clear r35 r45
  have HE6 := Lib.hid (And.intro r36 r46)
  clear r36 r46
  have HE8 := Lib.hid (And.intro r38 r48)
  clear r38 r48
  have HE9 := Lib.hid (And.intro r39 r49)
  clear r39 r49
  go_enter Try.func39, Try.ntmps39
  go_upto_region 1 with fail
  have HB := Lib.hid (two_boxes w 92 #[.slice s30 a.steps.length t30, .int .i64 a.last.claim.r1, .int .i64 a.last.claim.r2, .int .i64 a.last.claim.r3, .slice s34 a.last.claim.reads.length t34, .slice s35 a.last.claim.base.length t35, .slice s36 a.last.claim.conf.length t36, .int .i64 a.last.claim.count, .slice s38 a.last.claim.root.length t38, .slice s39 a.last.acks.length t39] #[.slice s40 a.steps.length t40, .int .i64 a.last.claim.r1, .int .i64 a.last.claim.r2, .int .i64 a.last.claim.r3, .slice s44 a.last.claim.reads.length t44, .slice s45 a.last.claim.base.length t45, .slice s46 a.last.claim.conf.length t46, .int .i64 a.last.claim.count, .slice s48 a.last.claim.root.length t48, .slice s49 a.last.acks.length t49])
  generalize hw0 : World.alloc (World.alloc w _) _ = w0 at HB ⊢
  clear hw0
  have HE := Lib.hid (And.intro (show CellsD P w [.int .i64 a.last.claim.r1, .int .i64 a.last.claim.r2, .int .i64 a.last.claim.r3, .slice s34 a.last.claim.reads.length t34, .slice s35 a.last.claim.base.length t35, .slice s36 a.last.claim.conf.length t36, .int .i64 a.last.claim.count, .slice s38 a.last.claim.root.length t38, .slice s39 a.last.acks.length t39] (certD a.last) from .mk (readsD_i _ _ _) (.mk (readsD_i _ _ _) (.mk (readsD_i _ _ _) (.mk HE4.out.1 (.mk HE5.out.1 (.mk HE6.out.1 (.mk (readsD_i _ _ _) (.mk HE8.out.1 (.mk HE9.out.1 .empty))))))))) (show CellsD P' w [.int .i64 a.last.claim.r1, .int .i64 a.last.claim.r2, .int .i64 a.last.claim.r3, .slice s44 a.last.claim.reads.length t44, .slice s45 a.last.claim.base.length t45, .slice s46 a.last.claim.conf.length t46, .int .i64 a.last.claim.count, .slice s48 a.last.claim.root.length t48, .slice s49 a.last.acks.length t49] (certD a.last) from .mk (readsD_i _ _ _) (.mk (readsD_i _ _ _) (.mk (readsD_i _ _ _) (.mk HE4.out.2 (.mk HE5.out.2 (.mk HE6.out.2 (.mk (readsD_i _ _ _) (.mk HE8.out.2 (.mk HE9.out.2 .empty))))))))))
  clear HE4 HE5 HE6 HE8 HE9
  have d10 : w0.cell? ⟨w.heap.size, 0, none⟩ = some (.slice s30 a.steps.length t30) := HB.out.1.cell 0
  have d20 : w0.cell? ⟨w.heap.size + 1, 0, none⟩ = some (.slice s40 a.steps.length t40) := HB.out.2.1.cell 0
  have HCL := Lib.hid (same_certificates _ _ a.steps w0 (HE0.out.1.on HB.out.2.2) (HE0.out.2.on HB.out.2.2))
  go_wp2_with fail
  refine HCL.out.mono ?_
  rintro e w1 ⟨rfl, hb1⟩
  have HBw1 := Lib.hid (⟨HB.out.1.on hb1, HB.out.2.1.on hb1, HB.out.2.2.trans (hb1.mono HB.out.2.2.size)⟩ : Blk w1 w.heap.size 92 #[.slice s30 a.steps.length t30, .int .i64 a.last.claim.r1, .int .i64 a.last.claim.r2, .int .i64 a.last.claim.r3, .slice s34 a.last.claim.reads.length t34, .slice s35 a.last.claim.base.length t35, .slice s36 a.last.claim.conf.length t36, .int .i64 a.last.claim.count, .slice s38 a.last.claim.root.length t38, .slice s39 a.last.acks.length t39] ∧ Blk w1 (w.heap.size + 1) 92 #[.slice s40 a.steps.length t40, .int .i64 a.last.claim.r1, .int .i64 a.last.claim.r2, .int .i64 a.last.claim.r3, .slice s44 a.last.claim.reads.length t44, .slice s45 a.last.claim.base.length t45, .slice s46 a.last.claim.conf.length t46, .int .i64 a.last.claim.count, .slice s48 a.last.claim.root.length t48, .slice s49 a.last.acks.length t49] ∧ Below w.heap.size w w1)
  clear HCL HB hb1
  clear d10 d20
  have d11 : w1.cell? ⟨w.heap.size, 1, none⟩ = some (.int .i64 a.last.claim.r1) := HBw1.out.1.cell 1
  have d21 : w1.cell? ⟨w.heap.size + 1, 1, none⟩ = some (.int .i64 a.last.claim.r1) := HBw1.out.2.1.cell 1
  have d12 : w1.cell? ⟨w.heap.size, 2, none⟩ = some (.int .i64 a.last.claim.r2) := HBw1.out.1.cell 2
  have d22 : w1.cell? ⟨w.heap.size + 1, 2, none⟩ = some (.int .i64 a.last.claim.r2) := HBw1.out.2.1.cell 2
  have d13 : w1.cell? ⟨w.heap.size, 3, none⟩ = some (.int .i64 a.last.claim.r3) := HBw1.out.1.cell 3
  have d23 : w1.cell? ⟨w.heap.size + 1, 3, none⟩ = some (.int .i64 a.last.claim.r3) := HBw1.out.2.1.cell 3
  have d14 : w1.cell? ⟨w.heap.size, 4, none⟩ = some (.slice s34 a.last.claim.reads.length t34) := HBw1.out.1.cell 4
  have d24 : w1.cell? ⟨w.heap.size + 1, 4, none⟩ = some (.slice s44 a.last.claim.reads.length t44) := HBw1.out.2.1.cell 4
  have d15 : w1.cell? ⟨w.heap.size, 5, none⟩ = some (.slice s35 a.last.claim.base.length t35) := HBw1.out.1.cell 5
  have d25 : w1.cell? ⟨w.heap.size + 1, 5, none⟩ = some (.slice s45 a.last.claim.base.length t45) := HBw1.out.2.1.cell 5
  have d16 : w1.cell? ⟨w.heap.size, 6, none⟩ = some (.slice s36 a.last.claim.conf.length t36) := HBw1.out.1.cell 6
  have d26 : w1.cell? ⟨w.heap.size + 1, 6, none⟩ = some (.slice s46 a.last.claim.conf.length t46) := HBw1.out.2.1.cell 6
  have d17 : w1.cell? ⟨w.heap.size, 7, none⟩ = some (.int .i64 a.last.claim.count) := HBw1.out.1.cell 7
  have d27 : w1.cell? ⟨w.heap.size + 1, 7, none⟩ = some (.int .i64 a.last.claim.count) := HBw1.out.2.1.cell 7
  have d18 : w1.cell? ⟨w.heap.size, 8, none⟩ = some (.slice s38 a.last.claim.root.length t38) := HBw1.out.1.cell 8
  have d28 : w1.cell? ⟨w.heap.size + 1, 8, none⟩ = some (.slice s48 a.last.claim.root.length t48) := HBw1.out.2.1.cell 8
  have d19 : w1.cell? ⟨w.heap.size, 9, none⟩ = some (.slice s39 a.last.acks.length t39) := HBw1.out.1.cell 9
  have d29 : w1.cell? ⟨w.heap.size + 1, 9, none⟩ = some (.slice s49 a.last.acks.length t49) := HBw1.out.2.1.cell 9
  have hz1 : w.heap.size < w1.heap.size := HBw1.out.1.lt
  have hz2 : w.heap.size + 1 < w1.heap.size := HBw1.out.2.1.lt
  go_wp2_with fail
  refine (same_certificates (P := fun _ => True) (P' := fun _ => True) _ _ [a.last] _ ?_ ?_).mono ?_
  · exact ((built_one (T := 89) (HE.out.1.on HBw1.out.2.2) rfl).mono (P' := fun _ => True) fun _ _ _ => trivial).on ((Below.refl _ _).alloc (Nat.le_refl _) _)
  · exact (built_at (T := 89) ((HE.out.2.on HBw1.out.2.2).on ((Below.refl _ _).alloc (Nat.le_refl _) _)) rfl (by rw [World.size_alloc])).mono (P' := fun _ => True) fun _ _ _ => trivial
  rintro e w3 ⟨rfl, hb3⟩
  have HB3 := Lib.hid (HBw1.out.2.2.trans ((Below.mono (below_two w1 _ _) HBw1.out.2.2.size).trans (hb3.mono (Nat.le_trans HBw1.out.2.2.size (below_two w1 _ _).size))))
  clear hb3
  go_wp2
  go_ret
  exact ⟨rfl, HB3.out⟩
end Go.Proofs.Ytmcdmcnbnnfhnaa
