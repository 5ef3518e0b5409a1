/-
  Chapter 28: equality of commands (the reference).
-/
import Derived.Test.YtmcdmcnbnnfhnaaSa
namespace Go.Proofs.Ytmcdmcnbnnfhnaa
open Go.RowKit

theorem two_boxes (w : World) (t : TypeId) (c1 c2 : Array Value) : Blk ((w.alloc (.cells c1 t)).alloc (.cells c2 t)) w.heap.size t c1 ∧ Blk ((w.alloc (.cells c1 t)).alloc (.cells c2 t)) (w.heap.size + 1) t c2 ∧ Below w.heap.size w ((w.alloc (.cells c1 t)).alloc (.cells c2 t)) := by
  have h1 := Blk.new (w.alloc (.cells c1 t)) t c2
  rw [World.size_alloc] at h1
  exact ⟨(Blk.new w _ _).alloc _, h1, ((Below.refl _ _).alloc (Nat.le_refl _) _).alloc (Nat.le_trans (Nat.le_refl _) (by rw [World.size_alloc]; omega)) _⟩
set_option maxRecDepth 100000 in
set_option maxHeartbeats 4000000 in
theorem same_command {P P' : Nat → Prop} (cs us : List Value) (a b : CmdM) (w : World) (hv : CellsD P w cs (cmdD a)) (hu : CellsD P' w us (cmdD b)) : Calls Try.prog 68 #[.agg cs.toArray, .agg us.toArray] w (BoolMade w (eqb a b)) := by
  obtain ⟨v30, cs3, rfl, r30, qq30⟩ := CellsD.cons hv
  clear hv
  have e30 := r30.i
  subst e30
  clear r30
  obtain ⟨v31, cs3, rfl, r31, qq31⟩ := CellsD.cons qq30
  clear qq30
  have e31 := r31.i
  subst e31
  clear r31
  obtain ⟨v32, cs3, rfl, r32, qq32⟩ := CellsD.cons qq31
  clear qq31
  have e32 := r32.i
  subst e32
  clear r32
  obtain ⟨v33, cs3, rfl, r33, qq33⟩ := CellsD.cons qq32
  clear qq32
  obtain ⟨s33, t33, rfl, -, -, -, hL33⟩ := ReadsD.slcM (f := wrD) r33
  obtain ⟨v34, cs3, rfl, r34, qq34⟩ := CellsD.cons qq33
  clear qq33
  have e34 := r34.i
  subst e34
  clear r34
  obtain ⟨v35, cs3, rfl, r35, qq35⟩ := CellsD.cons qq34
  clear qq34
  obtain ⟨s35, t35, rfl, -⟩ := r35.bslc
  have en3 := CellsD.nil qq35
  subst en3
  clear qq35
  obtain ⟨v40, cs4, rfl, r40, qq40⟩ := CellsD.cons hu
  clear hu
  have e40 := r40.i
  subst e40
  clear r40
  obtain ⟨v41, cs4, rfl, r41, qq41⟩ := CellsD.cons qq40
  clear qq40
  have e41 := r41.i
  subst e41
  clear r41
  obtain ⟨v42, cs4, rfl, r42, qq42⟩ := CellsD.cons qq41
  clear qq41
  have e42 := r42.i
  subst e42
  clear r42
  obtain ⟨v43, cs4, rfl, r43, qq43⟩ := CellsD.cons qq42
  clear qq42
  obtain ⟨s43, t43, rfl, -, -, -, hL43⟩ := ReadsD.slcM (f := wrD) r43
  obtain ⟨v44, cs4, rfl, r44, qq44⟩ := CellsD.cons qq43
  clear qq43
  have e44 := r44.i
  subst e44
  clear r44
  obtain ⟨v45, cs4, rfl, r45, qq45⟩ := CellsD.cons qq44
  clear qq44
  obtain ⟨s45, t45, rfl, -⟩ := r45.bslc
  have en4 := CellsD.nil qq45
  subst en4
  clear qq45
  have HW := Lib.hid (And.intro r33 r43)
  have HT := Lib.hid (And.intro r35 r45)
  clear r33 r43 r35 r45
  have HNO : Hid (¬ a = b → eqb a b = false) := Lib.hid eqb_neg
  have HYES : Hid (a = b → eqb a b = true) := Lib.hid eqb_pos
  generalize eqb a b = res at *
  by_cases n0 : a.c = b.c
  · have HN0 : Hid ((a.c != b.c) = false) := Lib.hid (by simp [n0])
    by_cases n1 : a.s = b.s
    · have HN1 : Hid ((a.s != b.s) = false) := Lib.hid (by simp [n1])
      by_cases n2 : a.k = b.k
      · have HN2 : Hid ((a.k != b.k) = false) := Lib.hid (by simp [n2])
        by_cases n3 : a.r = b.r
        · have HN3 : Hid ((a.r != b.r) = false) := Lib.hid (by simp [n3])
          by_cases n4 : a.tag = b.tag
          · have HN4 : Hid (eqb a.tag b.tag = true) := Lib.hid (eqb_pos n4)
            by_cases n5 : a.wr.length = b.wr.length
            · have HN5 : Hid (((a.wr.length : Int) != (b.wr.length : Int)) = false) := Lib.hid (by rw [n5]; simp)
              have HFIN : Hid (a.wr = b.wr → res = true) := Lib.hid fun e => HYES.out (by cases a; cases b; simp only at n0 n1 n2 n3 n4 e; subst n0 n1 n2 n3 n4 e; rfl)
              have HNOL : Hid (a.wr ≠ b.wr → res = false) := Lib.hid fun h => HNO.out fun h2 => h (by rw [h2])
              have HLEN := Lib.hid n5
              clear HNO HYES n0 n1 n2 n3 n4 n5
              go_enter Try.func68, Try.ntmps68
              go_upto_region 1 with fail
              have HB := Lib.hid (two_boxes w 81 #[.int .i64 a.c, .int .i64 a.s, .int .i64 a.k, .slice s33 a.wr.length t33, .int .i64 a.r, .slice s35 a.tag.length t35] #[.int .i64 b.c, .int .i64 b.s, .int .i64 b.k, .slice s43 b.wr.length t43, .int .i64 b.r, .slice s45 b.tag.length t45])
              generalize hw0 : World.alloc (World.alloc w _) _ = w0 at HB ⊢
              clear hw0
              have d10 : w0.cell? ⟨w.heap.size, 0, none⟩ = some (.int .i64 a.c) := HB.out.1.cell 0
              have d11 : w0.cell? ⟨w.heap.size, 1, none⟩ = some (.int .i64 a.s) := HB.out.1.cell 1
              have d12 : w0.cell? ⟨w.heap.size, 2, none⟩ = some (.int .i64 a.k) := HB.out.1.cell 2
              have d14 : w0.cell? ⟨w.heap.size, 4, none⟩ = some (.int .i64 a.r) := HB.out.1.cell 4
              have d15 : w0.cell? ⟨w.heap.size, 5, none⟩ = some (.slice s35 a.tag.length t35) := HB.out.1.cell 5
              have d20 : w0.cell? ⟨w.heap.size + 1, 0, none⟩ = some (.int .i64 b.c) := HB.out.2.1.cell 0
              have d21 : w0.cell? ⟨w.heap.size + 1, 1, none⟩ = some (.int .i64 b.s) := HB.out.2.1.cell 1
              have d22 : w0.cell? ⟨w.heap.size + 1, 2, none⟩ = some (.int .i64 b.k) := HB.out.2.1.cell 2
              have d24 : w0.cell? ⟨w.heap.size + 1, 4, none⟩ = some (.int .i64 b.r) := HB.out.2.1.cell 4
              have d25 : w0.cell? ⟨w.heap.size + 1, 5, none⟩ = some (.slice s45 b.tag.length t45) := HB.out.2.1.cell 5
              have nn0 := HN0.out
              have nn1 := HN1.out
              have nn2 := HN2.out
              have nn3 := HN3.out
              have nn5 := HN5.out
              have HCL := Lib.hid (same_bytes _ _ a.tag b.tag w0 (HT.out.1.on HB.out.2.2) (HT.out.2.on HB.out.2.2))
              rw [HN4.out] at HCL
              go_wp2_with fail
              refine HCL.out.mono ?_
              rintro e w1 ⟨rfl, hb1⟩
              have HB1 := Lib.hid (⟨HB.out.1.on hb1, HB.out.2.1.on hb1, HB.out.2.2.trans (hb1.mono HB.out.2.2.size)⟩ : Blk w1 w.heap.size 81 #[.int .i64 a.c, .int .i64 a.s, .int .i64 a.k, .slice s33 a.wr.length t33, .int .i64 a.r, .slice s35 a.tag.length t35] ∧ Blk w1 (w.heap.size + 1) 81 #[.int .i64 b.c, .int .i64 b.s, .int .i64 b.k, .slice s43 b.wr.length t43, .int .i64 b.r, .slice s45 b.tag.length t45] ∧ Below w.heap.size w w1)
              clear d10 d20 d11 d21 d12 d22 d14 d24 d15 d25
              clear HCL HB hb1
              have d13 : w1.cell? ⟨w.heap.size, 3, none⟩ = some (.slice s33 a.wr.length t33) := HB1.out.1.cell 3
              have d23 : w1.cell? ⟨w.heap.size + 1, 3, none⟩ = some (.slice s43 b.wr.length t43) := HB1.out.2.1.cell 3
              go_wp2
              clear d13 d23 nn0 nn1 nn2 nn3 nn5
              go_loopg [5] a.wr.length (fun m i wr => ∃ k : Nat, m + k = a.wr.length ∧ i = .int .i64 k ∧ (∀ j (h1 : j < a.wr.length) (h2 : j < b.wr.length), j < k → a.wr[j] = b.wr[j]) ∧ Blk wr w.heap.size 81 #[.int .i64 a.c, .int .i64 a.s, .int .i64 a.k, .slice s33 a.wr.length t33, .int .i64 a.r, .slice s35 a.tag.length t35] ∧ Blk wr (w.heap.size + 1) 81 #[.int .i64 b.c, .int .i64 b.s, .int .i64 b.k, .slice s43 b.wr.length t43, .int .i64 b.r, .slice s45 b.tag.length t45] ∧ Below w.heap.size w wr)
              case atStart => exact ⟨0, by omega, rfl, fun j _ _ h => by omega, HB1.out⟩
              case round =>
                rename World => w1
                obtain ⟨k, hmk, rfl, hall, hb⟩ := hrel
                have HM := Lib.hid hmk
                have HALL := Lib.hid hall
                have HB := Lib.hid hb
                have hk : k ≤ a.wr.length := by omega
                have hk0 : (0 : Int) ≤ (k : Int) := by omega
                clear hmk hall hb
                have d0 : w1.cell? ⟨w.heap.size, 3, none⟩ = some (.slice s33 a.wr.length t33) := HB.out.1.cell 3
                by_cases hlt : k < a.wr.length
                · have hlt2 : k < b.wr.length := by have := HLEN.out; omega
                  have hki : (k : Int) < a.wr.length := by omega
                  have hkj : (k : Int) < b.wr.length := by omega
                  obtain ⟨b1, o1, c1, cs1, e1, -, -, -, -, g1, q1⟩ := ReadsD.item (f := wrD) HW.out.1 hlt
                  obtain ⟨b2, o2, c2, cs2, e2, -, -, -, -, g2, q2⟩ := ReadsD.item (f := wrD) HW.out.2 hlt2
                  injection e1 with e1 e3 e4
                  injection e2 with e2 e5 e6
                  subst e1 e2
                  clear e3 e4 e5 e6
                  have HNK : Hid (a.wr[k] ≠ b.wr[k] → res = false) := Lib.hid fun h => HNOL.out fun h2 => h (by simp only [h2])
                  have HGK : Hid (a.wr[k] = b.wr[k] → ∀ j (h1 : j < a.wr.length) (h2 : j < b.wr.length), j < k + 1 → a.wr[j] = b.wr[j]) := Lib.hid fun h1 j hj hj2 hjk => by
                    by_cases h2 : j = k
                    · subst h2; exact h1
                    · exact HALL.out j hj hj2 (by omega)
                  generalize a.wr[k] = x at *
                  generalize b.wr[k] = y at *
                  have HLT := Lib.hid (And.intro hlt hlt2)
                  clear hlt hlt2
                  obtain ⟨v10, cs1, rfl, r10, qq10⟩ := CellsD.cons q1
                  clear q1
                  have e10 := r10.s
                  subst e10
                  clear r10
                  obtain ⟨v11, cs1, rfl, r11, qq11⟩ := CellsD.cons qq10
                  clear qq10
                  obtain ⟨s11, t11, rfl, -⟩ := r11.bslc
                  have en1 := CellsD.nil qq11
                  subst en1
                  clear qq11
                  obtain ⟨v20, cs2, rfl, r20, qq20⟩ := CellsD.cons q2
                  clear q2
                  have e20 := r20.s
                  subst e20
                  clear r20
                  obtain ⟨v21, cs2, rfl, r21, qq21⟩ := CellsD.cons qq20
                  clear qq20
                  obtain ⟨s21, t21, rfl, -⟩ := r21.bslc
                  have en2 := CellsD.nil qq21
                  subst en2
                  clear qq21
                  have HC1 := Lib.hid (fun (wq : World) (hq : Below w.heap.size w wq) => And.intro (show wq.cell? ⟨b1, o1 + k * 2, none⟩ = some (.string (toB x.obj)) from g1 wq hq 0 _ rfl) (show wq.cell? ⟨b1, o1 + k * 2 + 1, none⟩ = some (.slice s11 x.delta.length t11) from g1 wq hq 1 _ rfl))
                  have HC2 := Lib.hid (fun (wq : World) (hq : Below w.heap.size w wq) => And.intro (show wq.cell? ⟨b2, o2 + k * 2, none⟩ = some (.string (toB y.obj)) from g2 wq hq 0 _ rfl) (show wq.cell? ⟨b2, o2 + k * 2 + 1, none⟩ = some (.slice s21 y.delta.length t21) from g2 wq hq 1 _ rfl))
                  have HE1 := Lib.hid (And.intro r11 r21)
                  clear r11 r21
                  clear g1 g2
                  by_cases m0 : x.obj = y.obj
                  · have HM0 : Hid (((toB x.obj).toList == (toB y.obj).toList) = true) := Lib.hid (by rw [beq_toB, m0]; simp)
                    by_cases m1 : x.delta = y.delta
                    · have HM1 : Hid (eqb x.delta y.delta = true) := Lib.hid (eqb_pos m1)
                      have HXY := Lib.hid (HGK.out (by cases x; cases y; simp only at m0 m1; subst m0 m1; rfl))
                      clear HGK m0 m1
                      go_wp2_with fail
                      refine region_left [.is (.pointer (some ⟨w.heap.size, 3, none⟩)), .is (.slice (some ⟨b1, o1, none⟩) a.wr.length t33), .is (.int .i64 (k : Int)), .is (.pointer (some ⟨b1, o1 + k * 2, none⟩)), .is (.pointer (some ⟨b1, o1 + k * 2, none⟩)), .is (.string (toB x.obj)), .is (.pointer (some ⟨w.heap.size + 1, 3, none⟩)), .is (.slice (some ⟨b2, o2, none⟩) b.wr.length t43), .is (.int .i64 (k : Int)), .is (.pointer (some ⟨b2, o2 + k * 2, none⟩)), .is (.pointer (some ⟨b2, o2 + k * 2, none⟩)), .is (.string (toB y.obj)), .is (.bool false), .is (.bool false), .is (.pointer (some ⟨w.heap.size, 3, none⟩)), .is (.slice (some ⟨b1, o1, none⟩) a.wr.length t33), .is (.int .i64 (k : Int)), .is (.pointer (some ⟨b1, o1 + k * 2, none⟩)), .is (.pointer (some ⟨b1, o1 + k * 2 + 1, none⟩)), .is (.slice s11 x.delta.length t11), .is (.pointer (some ⟨w.heap.size + 1, 3, none⟩)), .is (.slice (some ⟨b2, o2, none⟩) b.wr.length t43), .is (.int .i64 (k : Int)), .is (.pointer (some ⟨b2, o2 + k * 2, none⟩)), .is (.pointer (some ⟨b2, o2 + k * 2 + 1, none⟩)), .is (.slice s21 y.delta.length t21), .is (.bool true), .is (.bool false), .is (.bool false)] (by kernel_rfl) rfl (by kernel_rfl) (by kernel_rfl) (.cons ?e2_0 (.cons ?e2_1 (.cons ?e2_2 (.cons ?e2_3 (.cons ?e2_4 (.cons ?e2_5 (.cons ?e2_6 (.cons ?e2_7 (.cons ?e2_8 (.cons ?e2_9 (.cons ?e2_10 (.cons ?e2_11 (.cons ?e2_12 (.cons ?e2_13 (.cons ?e2_14 (.cons ?e2_15 (.cons ?e2_16 (.cons ?e2_17 (.cons ?e2_18 (.cons ?e2_19 (.cons ?e2_20 (.cons ?e2_21 (.cons ?e2_22 (.cons ?e2_23 (.cons ?e2_24 (.cons ?e2_25 (.cons ?e2_26 (.cons ?e2_27 (.cons ?e2_28 .nil))))))))))))))))))))))))))))) ?e2_fin
                      case e2_0 =>
                        intro wq hbw st  K hK
                        have KQ := HB.out.2.2.trans (hbw.mono HB.out.2.2.size)
                        simp only [Act.put, List.setIfInBounds_toArray, List.set_cons_zero, List.set_cons_succ] at hK ⊢
                        unfold opStep
                        rw [if_pos (by rfl)]
                        go_simp
                        exact hK.out _ _ (Below.refl _ _) rfl _ rfl
                      case e2_1 =>
                        intro wq hbw st  K hK
                        have KQ := HB.out.2.2.trans (hbw.mono HB.out.2.2.size)
                        simp only [Act.put, List.setIfInBounds_toArray, List.set_cons_zero, List.set_cons_succ] at hK ⊢
                        unfold opStep
                        rw [if_pos (by rfl)]
                        have d0 : wq.cell? ⟨w.heap.size, 3, none⟩ = some (.slice (some ⟨b1, o1, none⟩) a.wr.length t33) := (HB.out.1.on hbw).cell 3
                        go_simp
                        exact hK.out _ _ (Below.refl _ _) rfl _ rfl
                      case e2_2 =>
                        intro wq hbw st  K hK
                        have KQ := HB.out.2.2.trans (hbw.mono HB.out.2.2.size)
                        simp only [Act.put, List.setIfInBounds_toArray, List.set_cons_zero, List.set_cons_succ] at hK ⊢
                        unfold opStep
                        rw [if_pos (by rfl)]
                        go_simp
                        exact hK.out _ _ (Below.refl _ _) rfl _ rfl
                      case e2_3 =>
                        intro wq hbw st  K hK
                        have KQ := HB.out.2.2.trans (hbw.mono HB.out.2.2.size)
                        simp only [Act.put, List.setIfInBounds_toArray, List.set_cons_zero, List.set_cons_succ] at hK ⊢
                        unfold opStep
                        rw [if_pos (by rfl)]
                        go_simp
                        exact hK.out _ _ (Below.refl _ _) rfl _ rfl
                      case e2_4 =>
                        intro wq hbw st  K hK
                        have KQ := HB.out.2.2.trans (hbw.mono HB.out.2.2.size)
                        simp only [Act.put, List.setIfInBounds_toArray, List.set_cons_zero, List.set_cons_succ] at hK ⊢
                        unfold opStep
                        rw [if_pos (by rfl)]
                        go_simp
                        exact hK.out _ _ (Below.refl _ _) rfl _ rfl
                      case e2_5 =>
                        intro wq hbw st  K hK
                        have KQ := HB.out.2.2.trans (hbw.mono HB.out.2.2.size)
                        simp only [Act.put, List.setIfInBounds_toArray, List.set_cons_zero, List.set_cons_succ] at hK ⊢
                        unfold opStep
                        rw [if_pos (by rfl)]
                        have dd := Lib.hid (HC1.out wq KQ)
                        have d0 := dd.out.1
                        go_simp
                        exact hK.out _ _ (Below.refl _ _) rfl _ rfl
                      case e2_6 =>
                        intro wq hbw st  K hK
                        have KQ := HB.out.2.2.trans (hbw.mono HB.out.2.2.size)
                        simp only [Act.put, List.setIfInBounds_toArray, List.set_cons_zero, List.set_cons_succ] at hK ⊢
                        unfold opStep
                        rw [if_pos (by rfl)]
                        go_simp
                        exact hK.out _ _ (Below.refl _ _) rfl _ rfl
                      case e2_7 =>
                        intro wq hbw st  K hK
                        have KQ := HB.out.2.2.trans (hbw.mono HB.out.2.2.size)
                        simp only [Act.put, List.setIfInBounds_toArray, List.set_cons_zero, List.set_cons_succ] at hK ⊢
                        unfold opStep
                        rw [if_pos (by rfl)]
                        have d0 : wq.cell? ⟨w.heap.size + 1, 3, none⟩ = some (.slice (some ⟨b2, o2, none⟩) b.wr.length t43) := (HB.out.2.1.on hbw).cell 3
                        go_simp
                        exact hK.out _ _ (Below.refl _ _) rfl _ rfl
                      case e2_8 =>
                        intro wq hbw st  K hK
                        have KQ := HB.out.2.2.trans (hbw.mono HB.out.2.2.size)
                        simp only [Act.put, List.setIfInBounds_toArray, List.set_cons_zero, List.set_cons_succ] at hK ⊢
                        unfold opStep
                        rw [if_pos (by rfl)]
                        go_simp
                        exact hK.out _ _ (Below.refl _ _) rfl _ rfl
                      case e2_9 =>
                        intro wq hbw st  K hK
                        have KQ := HB.out.2.2.trans (hbw.mono HB.out.2.2.size)
                        simp only [Act.put, List.setIfInBounds_toArray, List.set_cons_zero, List.set_cons_succ] at hK ⊢
                        unfold opStep
                        rw [if_pos (by rfl)]
                        go_simp
                        exact hK.out _ _ (Below.refl _ _) rfl _ rfl
                      case e2_10 =>
                        intro wq hbw st  K hK
                        have KQ := HB.out.2.2.trans (hbw.mono HB.out.2.2.size)
                        simp only [Act.put, List.setIfInBounds_toArray, List.set_cons_zero, List.set_cons_succ] at hK ⊢
                        unfold opStep
                        rw [if_pos (by rfl)]
                        go_simp
                        exact hK.out _ _ (Below.refl _ _) rfl _ rfl
                      case e2_11 =>
                        intro wq hbw st  K hK
                        have KQ := HB.out.2.2.trans (hbw.mono HB.out.2.2.size)
                        simp only [Act.put, List.setIfInBounds_toArray, List.set_cons_zero, List.set_cons_succ] at hK ⊢
                        unfold opStep
                        rw [if_pos (by rfl)]
                        have dd := Lib.hid (HC2.out wq KQ)
                        have d0 := dd.out.1
                        go_simp
                        exact hK.out _ _ (Below.refl _ _) rfl _ rfl
                      case e2_12 =>
                        intro wq hbw st  K hK
                        have KQ := HB.out.2.2.trans (hbw.mono HB.out.2.2.size)
                        simp only [Act.put, List.setIfInBounds_toArray, List.set_cons_zero, List.set_cons_succ] at hK ⊢
                        unfold opStep
                        rw [if_pos (by rfl)]
                        have nn := HM0.out
                        go_simp
                        exact hK.out _ _ (Below.refl _ _) rfl _ rfl
                      case e2_13 =>
                        intro wq hbw st  K hK
                        have KQ := HB.out.2.2.trans (hbw.mono HB.out.2.2.size)
                        simp only [Act.put, List.setIfInBounds_toArray, List.set_cons_zero, List.set_cons_succ] at hK ⊢
                        unfold opStep
                        rw [if_pos (by rfl)]
                        go_simp
                        exact hK.out _ _ (Below.refl _ _) rfl _ rfl
                      case e2_14 =>
                        intro wq hbw st  K hK
                        have KQ := HB.out.2.2.trans (hbw.mono HB.out.2.2.size)
                        simp only [Act.put, List.setIfInBounds_toArray, List.set_cons_zero, List.set_cons_succ] at hK ⊢
                        unfold opStep
                        rw [if_pos (by rfl)]
                        go_simp
                        exact hK.out _ _ (Below.refl _ _) rfl _ rfl
                      case e2_15 =>
                        intro wq hbw st  K hK
                        have KQ := HB.out.2.2.trans (hbw.mono HB.out.2.2.size)
                        simp only [Act.put, List.setIfInBounds_toArray, List.set_cons_zero, List.set_cons_succ] at hK ⊢
                        unfold opStep
                        rw [if_pos (by rfl)]
                        have d0 : wq.cell? ⟨w.heap.size, 3, none⟩ = some (.slice (some ⟨b1, o1, none⟩) a.wr.length t33) := (HB.out.1.on hbw).cell 3
                        go_simp
                        exact hK.out _ _ (Below.refl _ _) rfl _ rfl
                      case e2_16 =>
                        intro wq hbw st  K hK
                        have KQ := HB.out.2.2.trans (hbw.mono HB.out.2.2.size)
                        simp only [Act.put, List.setIfInBounds_toArray, List.set_cons_zero, List.set_cons_succ] at hK ⊢
                        unfold opStep
                        rw [if_pos (by rfl)]
                        go_simp
                        exact hK.out _ _ (Below.refl _ _) rfl _ rfl
                      case e2_17 =>
                        intro wq hbw st  K hK
                        have KQ := HB.out.2.2.trans (hbw.mono HB.out.2.2.size)
                        simp only [Act.put, List.setIfInBounds_toArray, List.set_cons_zero, List.set_cons_succ] at hK ⊢
                        unfold opStep
                        rw [if_pos (by rfl)]
                        go_simp
                        exact hK.out _ _ (Below.refl _ _) rfl _ rfl
                      case e2_18 =>
                        intro wq hbw st  K hK
                        have KQ := HB.out.2.2.trans (hbw.mono HB.out.2.2.size)
                        simp only [Act.put, List.setIfInBounds_toArray, List.set_cons_zero, List.set_cons_succ] at hK ⊢
                        unfold opStep
                        rw [if_pos (by rfl)]
                        go_simp
                        exact hK.out _ _ (Below.refl _ _) rfl _ rfl
                      case e2_19 =>
                        intro wq hbw st  K hK
                        have KQ := HB.out.2.2.trans (hbw.mono HB.out.2.2.size)
                        simp only [Act.put, List.setIfInBounds_toArray, List.set_cons_zero, List.set_cons_succ] at hK ⊢
                        unfold opStep
                        rw [if_pos (by rfl)]
                        have dd := Lib.hid (HC1.out wq KQ)
                        have d0 := dd.out.2
                        go_simp
                        exact hK.out _ _ (Below.refl _ _) rfl _ rfl
                      case e2_20 =>
                        intro wq hbw st  K hK
                        have KQ := HB.out.2.2.trans (hbw.mono HB.out.2.2.size)
                        simp only [Act.put, List.setIfInBounds_toArray, List.set_cons_zero, List.set_cons_succ] at hK ⊢
                        unfold opStep
                        rw [if_pos (by rfl)]
                        go_simp
                        exact hK.out _ _ (Below.refl _ _) rfl _ rfl
                      case e2_21 =>
                        intro wq hbw st  K hK
                        have KQ := HB.out.2.2.trans (hbw.mono HB.out.2.2.size)
                        simp only [Act.put, List.setIfInBounds_toArray, List.set_cons_zero, List.set_cons_succ] at hK ⊢
                        unfold opStep
                        rw [if_pos (by rfl)]
                        have d0 : wq.cell? ⟨w.heap.size + 1, 3, none⟩ = some (.slice (some ⟨b2, o2, none⟩) b.wr.length t43) := (HB.out.2.1.on hbw).cell 3
                        go_simp
                        exact hK.out _ _ (Below.refl _ _) rfl _ rfl
                      case e2_22 =>
                        intro wq hbw st  K hK
                        have KQ := HB.out.2.2.trans (hbw.mono HB.out.2.2.size)
                        simp only [Act.put, List.setIfInBounds_toArray, List.set_cons_zero, List.set_cons_succ] at hK ⊢
                        unfold opStep
                        rw [if_pos (by rfl)]
                        go_simp
                        exact hK.out _ _ (Below.refl _ _) rfl _ rfl
                      case e2_23 =>
                        intro wq hbw st  K hK
                        have KQ := HB.out.2.2.trans (hbw.mono HB.out.2.2.size)
                        simp only [Act.put, List.setIfInBounds_toArray, List.set_cons_zero, List.set_cons_succ] at hK ⊢
                        unfold opStep
                        rw [if_pos (by rfl)]
                        go_simp
                        exact hK.out _ _ (Below.refl _ _) rfl _ rfl
                      case e2_24 =>
                        intro wq hbw st  K hK
                        have KQ := HB.out.2.2.trans (hbw.mono HB.out.2.2.size)
                        simp only [Act.put, List.setIfInBounds_toArray, List.set_cons_zero, List.set_cons_succ] at hK ⊢
                        unfold opStep
                        rw [if_pos (by rfl)]
                        go_simp
                        exact hK.out _ _ (Below.refl _ _) rfl _ rfl
                      case e2_25 =>
                        intro wq hbw st  K hK
                        have KQ := HB.out.2.2.trans (hbw.mono HB.out.2.2.size)
                        simp only [Act.put, List.setIfInBounds_toArray, List.set_cons_zero, List.set_cons_succ] at hK ⊢
                        unfold opStep
                        rw [if_pos (by rfl)]
                        have dd := Lib.hid (HC2.out wq KQ)
                        have d0 := dd.out.2
                        go_simp
                        exact hK.out _ _ (Below.refl _ _) rfl _ rfl
                      case e2_26 =>
                        intro wq hbw st  K hK
                        have KQ := HB.out.2.2.trans (hbw.mono HB.out.2.2.size)
                        simp only [Act.put, List.setIfInBounds_toArray, List.set_cons_zero, List.set_cons_succ] at hK ⊢
                        unfold opStep
                        rw [if_pos (by rfl)]
                        go_simp
                        have hpc := same_bytes _ _ x.delta y.delta wq (HE1.out.1.on KQ) (HE1.out.2.on KQ)
                        rw [HM1.out] at hpc
                        refine hpc.mono ?_
                        rintro e wz ⟨rfl, hbz⟩
                        go_simp
                        exact hK.out _ _ hbz rfl _ rfl
                      case e2_27 =>
                        intro wq hbw st  K hK
                        have KQ := HB.out.2.2.trans (hbw.mono HB.out.2.2.size)
                        simp only [Act.put, List.setIfInBounds_toArray, List.set_cons_zero, List.set_cons_succ] at hK ⊢
                        unfold opStep
                        rw [if_pos (by rfl)]
                        go_simp
                        exact hK.out _ _ (Below.refl _ _) rfl _ rfl
                      case e2_28 =>
                        intro wq hbw st  K hK
                        have KQ := HB.out.2.2.trans (hbw.mono HB.out.2.2.size)
                        simp only [Act.put, List.setIfInBounds_toArray, List.set_cons_zero, List.set_cons_succ] at hK ⊢
                        unfold opStep
                        rw [if_pos (by rfl)]
                        go_simp
                        exact hK.out _ _ (Below.refl _ _) rfl _ rfl
                      case e2_fin =>
                        intro wq hbw
                        try simp only [FinAll]
                        simp only [Act.put, List.setIfInBounds_toArray, List.set_cons_zero, List.set_cons_succ]
                        have KQ := HB.out.2.2.trans (hbw.mono HB.out.2.2.size)
                        have HB2 := Lib.hid ((⟨HB.out.1.on hbw, HB.out.2.1.on hbw, KQ⟩ : _ ∧ _ ∧ _))
                        clear hbw
                        go_wp2
                        go_roundg (a.wr.length - (k + 1))
                        case measure => have := HM.out; have := HLT.out.1; omega
                        case rel => exact ⟨k + 1, by have := HLT.out.1; omega, by go_num, HXY.out, HB2.out⟩
                    · have HM1 : Hid (eqb x.delta y.delta = false) := Lib.hid (eqb_neg m1)
                      obtain rfl : res = false := HNK.out fun e => m1 (by rw [e])
                      clear HNK HGK HNOL HFIN m0 m1
                      go_wp2_with fail
                      refine region_left [.is (.pointer (some ⟨w.heap.size, 3, none⟩)), .is (.slice (some ⟨b1, o1, none⟩) a.wr.length t33), .is (.int .i64 (k : Int)), .is (.pointer (some ⟨b1, o1 + k * 2, none⟩)), .is (.pointer (some ⟨b1, o1 + k * 2, none⟩)), .is (.string (toB x.obj)), .is (.pointer (some ⟨w.heap.size + 1, 3, none⟩)), .is (.slice (some ⟨b2, o2, none⟩) b.wr.length t43), .is (.int .i64 (k : Int)), .is (.pointer (some ⟨b2, o2 + k * 2, none⟩)), .is (.pointer (some ⟨b2, o2 + k * 2, none⟩)), .is (.string (toB y.obj)), .is (.bool false), .is (.bool false), .is (.pointer (some ⟨w.heap.size, 3, none⟩)), .is (.slice (some ⟨b1, o1, none⟩) a.wr.length t33), .is (.int .i64 (k : Int)), .is (.pointer (some ⟨b1, o1 + k * 2, none⟩)), .is (.pointer (some ⟨b1, o1 + k * 2 + 1, none⟩)), .is (.slice s11 x.delta.length t11), .is (.pointer (some ⟨w.heap.size + 1, 3, none⟩)), .is (.slice (some ⟨b2, o2, none⟩) b.wr.length t43), .is (.int .i64 (k : Int)), .is (.pointer (some ⟨b2, o2 + k * 2, none⟩)), .is (.pointer (some ⟨b2, o2 + k * 2 + 1, none⟩)), .is (.slice s21 y.delta.length t21), .is (.bool false), .is (.bool true), .is (.bool true)] (by kernel_rfl) rfl (by kernel_rfl) (by kernel_rfl) (.cons ?e1_0 (.cons ?e1_1 (.cons ?e1_2 (.cons ?e1_3 (.cons ?e1_4 (.cons ?e1_5 (.cons ?e1_6 (.cons ?e1_7 (.cons ?e1_8 (.cons ?e1_9 (.cons ?e1_10 (.cons ?e1_11 (.cons ?e1_12 (.cons ?e1_13 (.cons ?e1_14 (.cons ?e1_15 (.cons ?e1_16 (.cons ?e1_17 (.cons ?e1_18 (.cons ?e1_19 (.cons ?e1_20 (.cons ?e1_21 (.cons ?e1_22 (.cons ?e1_23 (.cons ?e1_24 (.cons ?e1_25 (.cons ?e1_26 (.cons ?e1_27 (.cons ?e1_28 .nil))))))))))))))))))))))))))))) ?e1_fin
                      case e1_0 =>
                        intro wq hbw st  K hK
                        have KQ := HB.out.2.2.trans (hbw.mono HB.out.2.2.size)
                        simp only [Act.put, List.setIfInBounds_toArray, List.set_cons_zero, List.set_cons_succ] at hK ⊢
                        unfold opStep
                        rw [if_pos (by rfl)]
                        go_simp
                        exact hK.out _ _ (Below.refl _ _) rfl _ rfl
                      case e1_1 =>
                        intro wq hbw st  K hK
                        have KQ := HB.out.2.2.trans (hbw.mono HB.out.2.2.size)
                        simp only [Act.put, List.setIfInBounds_toArray, List.set_cons_zero, List.set_cons_succ] at hK ⊢
                        unfold opStep
                        rw [if_pos (by rfl)]
                        have d0 : wq.cell? ⟨w.heap.size, 3, none⟩ = some (.slice (some ⟨b1, o1, none⟩) a.wr.length t33) := (HB.out.1.on hbw).cell 3
                        go_simp
                        exact hK.out _ _ (Below.refl _ _) rfl _ rfl
                      case e1_2 =>
                        intro wq hbw st  K hK
                        have KQ := HB.out.2.2.trans (hbw.mono HB.out.2.2.size)
                        simp only [Act.put, List.setIfInBounds_toArray, List.set_cons_zero, List.set_cons_succ] at hK ⊢
                        unfold opStep
                        rw [if_pos (by rfl)]
                        go_simp
                        exact hK.out _ _ (Below.refl _ _) rfl _ rfl
                      case e1_3 =>
                        intro wq hbw st  K hK
                        have KQ := HB.out.2.2.trans (hbw.mono HB.out.2.2.size)
                        simp only [Act.put, List.setIfInBounds_toArray, List.set_cons_zero, List.set_cons_succ] at hK ⊢
                        unfold opStep
                        rw [if_pos (by rfl)]
                        go_simp
                        exact hK.out _ _ (Below.refl _ _) rfl _ rfl
                      case e1_4 =>
                        intro wq hbw st  K hK
                        have KQ := HB.out.2.2.trans (hbw.mono HB.out.2.2.size)
                        simp only [Act.put, List.setIfInBounds_toArray, List.set_cons_zero, List.set_cons_succ] at hK ⊢
                        unfold opStep
                        rw [if_pos (by rfl)]
                        go_simp
                        exact hK.out _ _ (Below.refl _ _) rfl _ rfl
                      case e1_5 =>
                        intro wq hbw st  K hK
                        have KQ := HB.out.2.2.trans (hbw.mono HB.out.2.2.size)
                        simp only [Act.put, List.setIfInBounds_toArray, List.set_cons_zero, List.set_cons_succ] at hK ⊢
                        unfold opStep
                        rw [if_pos (by rfl)]
                        have dd := Lib.hid (HC1.out wq KQ)
                        have d0 := dd.out.1
                        go_simp
                        exact hK.out _ _ (Below.refl _ _) rfl _ rfl
                      case e1_6 =>
                        intro wq hbw st  K hK
                        have KQ := HB.out.2.2.trans (hbw.mono HB.out.2.2.size)
                        simp only [Act.put, List.setIfInBounds_toArray, List.set_cons_zero, List.set_cons_succ] at hK ⊢
                        unfold opStep
                        rw [if_pos (by rfl)]
                        go_simp
                        exact hK.out _ _ (Below.refl _ _) rfl _ rfl
                      case e1_7 =>
                        intro wq hbw st  K hK
                        have KQ := HB.out.2.2.trans (hbw.mono HB.out.2.2.size)
                        simp only [Act.put, List.setIfInBounds_toArray, List.set_cons_zero, List.set_cons_succ] at hK ⊢
                        unfold opStep
                        rw [if_pos (by rfl)]
                        have d0 : wq.cell? ⟨w.heap.size + 1, 3, none⟩ = some (.slice (some ⟨b2, o2, none⟩) b.wr.length t43) := (HB.out.2.1.on hbw).cell 3
                        go_simp
                        exact hK.out _ _ (Below.refl _ _) rfl _ rfl
                      case e1_8 =>
                        intro wq hbw st  K hK
                        have KQ := HB.out.2.2.trans (hbw.mono HB.out.2.2.size)
                        simp only [Act.put, List.setIfInBounds_toArray, List.set_cons_zero, List.set_cons_succ] at hK ⊢
                        unfold opStep
                        rw [if_pos (by rfl)]
                        go_simp
                        exact hK.out _ _ (Below.refl _ _) rfl _ rfl
                      case e1_9 =>
                        intro wq hbw st  K hK
                        have KQ := HB.out.2.2.trans (hbw.mono HB.out.2.2.size)
                        simp only [Act.put, List.setIfInBounds_toArray, List.set_cons_zero, List.set_cons_succ] at hK ⊢
                        unfold opStep
                        rw [if_pos (by rfl)]
                        go_simp
                        exact hK.out _ _ (Below.refl _ _) rfl _ rfl
                      case e1_10 =>
                        intro wq hbw st  K hK
                        have KQ := HB.out.2.2.trans (hbw.mono HB.out.2.2.size)
                        simp only [Act.put, List.setIfInBounds_toArray, List.set_cons_zero, List.set_cons_succ] at hK ⊢
                        unfold opStep
                        rw [if_pos (by rfl)]
                        go_simp
                        exact hK.out _ _ (Below.refl _ _) rfl _ rfl
                      case e1_11 =>
                        intro wq hbw st  K hK
                        have KQ := HB.out.2.2.trans (hbw.mono HB.out.2.2.size)
                        simp only [Act.put, List.setIfInBounds_toArray, List.set_cons_zero, List.set_cons_succ] at hK ⊢
                        unfold opStep
                        rw [if_pos (by rfl)]
                        have dd := Lib.hid (HC2.out wq KQ)
                        have d0 := dd.out.1
                        go_simp
                        exact hK.out _ _ (Below.refl _ _) rfl _ rfl
                      case e1_12 =>
                        intro wq hbw st  K hK
                        have KQ := HB.out.2.2.trans (hbw.mono HB.out.2.2.size)
                        simp only [Act.put, List.setIfInBounds_toArray, List.set_cons_zero, List.set_cons_succ] at hK ⊢
                        unfold opStep
                        rw [if_pos (by rfl)]
                        have nn := HM0.out
                        go_simp
                        exact hK.out _ _ (Below.refl _ _) rfl _ rfl
                      case e1_13 =>
                        intro wq hbw st  K hK
                        have KQ := HB.out.2.2.trans (hbw.mono HB.out.2.2.size)
                        simp only [Act.put, List.setIfInBounds_toArray, List.set_cons_zero, List.set_cons_succ] at hK ⊢
                        unfold opStep
                        rw [if_pos (by rfl)]
                        go_simp
                        exact hK.out _ _ (Below.refl _ _) rfl _ rfl
                      case e1_14 =>
                        intro wq hbw st  K hK
                        have KQ := HB.out.2.2.trans (hbw.mono HB.out.2.2.size)
                        simp only [Act.put, List.setIfInBounds_toArray, List.set_cons_zero, List.set_cons_succ] at hK ⊢
                        unfold opStep
                        rw [if_pos (by rfl)]
                        go_simp
                        exact hK.out _ _ (Below.refl _ _) rfl _ rfl
                      case e1_15 =>
                        intro wq hbw st  K hK
                        have KQ := HB.out.2.2.trans (hbw.mono HB.out.2.2.size)
                        simp only [Act.put, List.setIfInBounds_toArray, List.set_cons_zero, List.set_cons_succ] at hK ⊢
                        unfold opStep
                        rw [if_pos (by rfl)]
                        have d0 : wq.cell? ⟨w.heap.size, 3, none⟩ = some (.slice (some ⟨b1, o1, none⟩) a.wr.length t33) := (HB.out.1.on hbw).cell 3
                        go_simp
                        exact hK.out _ _ (Below.refl _ _) rfl _ rfl
                      case e1_16 =>
                        intro wq hbw st  K hK
                        have KQ := HB.out.2.2.trans (hbw.mono HB.out.2.2.size)
                        simp only [Act.put, List.setIfInBounds_toArray, List.set_cons_zero, List.set_cons_succ] at hK ⊢
                        unfold opStep
                        rw [if_pos (by rfl)]
                        go_simp
                        exact hK.out _ _ (Below.refl _ _) rfl _ rfl
                      case e1_17 =>
                        intro wq hbw st  K hK
                        have KQ := HB.out.2.2.trans (hbw.mono HB.out.2.2.size)
                        simp only [Act.put, List.setIfInBounds_toArray, List.set_cons_zero, List.set_cons_succ] at hK ⊢
                        unfold opStep
                        rw [if_pos (by rfl)]
                        go_simp
                        exact hK.out _ _ (Below.refl _ _) rfl _ rfl
                      case e1_18 =>
                        intro wq hbw st  K hK
                        have KQ := HB.out.2.2.trans (hbw.mono HB.out.2.2.size)
                        simp only [Act.put, List.setIfInBounds_toArray, List.set_cons_zero, List.set_cons_succ] at hK ⊢
                        unfold opStep
                        rw [if_pos (by rfl)]
                        go_simp
                        exact hK.out _ _ (Below.refl _ _) rfl _ rfl
                      case e1_19 =>
                        intro wq hbw st  K hK
                        have KQ := HB.out.2.2.trans (hbw.mono HB.out.2.2.size)
                        simp only [Act.put, List.setIfInBounds_toArray, List.set_cons_zero, List.set_cons_succ] at hK ⊢
                        unfold opStep
                        rw [if_pos (by rfl)]
                        have dd := Lib.hid (HC1.out wq KQ)
                        have d0 := dd.out.2
                        go_simp
                        exact hK.out _ _ (Below.refl _ _) rfl _ rfl
                      case e1_20 =>
                        intro wq hbw st  K hK
                        have KQ := HB.out.2.2.trans (hbw.mono HB.out.2.2.size)
                        simp only [Act.put, List.setIfInBounds_toArray, List.set_cons_zero, List.set_cons_succ] at hK ⊢
                        unfold opStep
                        rw [if_pos (by rfl)]
                        go_simp
                        exact hK.out _ _ (Below.refl _ _) rfl _ rfl
                      case e1_21 =>
                        intro wq hbw st  K hK
                        have KQ := HB.out.2.2.trans (hbw.mono HB.out.2.2.size)
                        simp only [Act.put, List.setIfInBounds_toArray, List.set_cons_zero, List.set_cons_succ] at hK ⊢
                        unfold opStep
                        rw [if_pos (by rfl)]
                        have d0 : wq.cell? ⟨w.heap.size + 1, 3, none⟩ = some (.slice (some ⟨b2, o2, none⟩) b.wr.length t43) := (HB.out.2.1.on hbw).cell 3
                        go_simp
                        exact hK.out _ _ (Below.refl _ _) rfl _ rfl
                      case e1_22 =>
                        intro wq hbw st  K hK
                        have KQ := HB.out.2.2.trans (hbw.mono HB.out.2.2.size)
                        simp only [Act.put, List.setIfInBounds_toArray, List.set_cons_zero, List.set_cons_succ] at hK ⊢
                        unfold opStep
                        rw [if_pos (by rfl)]
                        go_simp
                        exact hK.out _ _ (Below.refl _ _) rfl _ rfl
                      case e1_23 =>
                        intro wq hbw st  K hK
                        have KQ := HB.out.2.2.trans (hbw.mono HB.out.2.2.size)
                        simp only [Act.put, List.setIfInBounds_toArray, List.set_cons_zero, List.set_cons_succ] at hK ⊢
                        unfold opStep
                        rw [if_pos (by rfl)]
                        go_simp
                        exact hK.out _ _ (Below.refl _ _) rfl _ rfl
                      case e1_24 =>
                        intro wq hbw st  K hK
                        have KQ := HB.out.2.2.trans (hbw.mono HB.out.2.2.size)
                        simp only [Act.put, List.setIfInBounds_toArray, List.set_cons_zero, List.set_cons_succ] at hK ⊢
                        unfold opStep
                        rw [if_pos (by rfl)]
                        go_simp
                        exact hK.out _ _ (Below.refl _ _) rfl _ rfl
                      case e1_25 =>
                        intro wq hbw st  K hK
                        have KQ := HB.out.2.2.trans (hbw.mono HB.out.2.2.size)
                        simp only [Act.put, List.setIfInBounds_toArray, List.set_cons_zero, List.set_cons_succ] at hK ⊢
                        unfold opStep
                        rw [if_pos (by rfl)]
                        have dd := Lib.hid (HC2.out wq KQ)
                        have d0 := dd.out.2
                        go_simp
                        exact hK.out _ _ (Below.refl _ _) rfl _ rfl
                      case e1_26 =>
                        intro wq hbw st  K hK
                        have KQ := HB.out.2.2.trans (hbw.mono HB.out.2.2.size)
                        simp only [Act.put, List.setIfInBounds_toArray, List.set_cons_zero, List.set_cons_succ] at hK ⊢
                        unfold opStep
                        rw [if_pos (by rfl)]
                        go_simp
                        have hpc := same_bytes _ _ x.delta y.delta wq (HE1.out.1.on KQ) (HE1.out.2.on KQ)
                        rw [HM1.out] at hpc
                        refine hpc.mono ?_
                        rintro e wz ⟨rfl, hbz⟩
                        go_simp
                        exact hK.out _ _ hbz rfl _ rfl
                      case e1_27 =>
                        intro wq hbw st  K hK
                        have KQ := HB.out.2.2.trans (hbw.mono HB.out.2.2.size)
                        simp only [Act.put, List.setIfInBounds_toArray, List.set_cons_zero, List.set_cons_succ] at hK ⊢
                        unfold opStep
                        rw [if_pos (by rfl)]
                        go_simp
                        exact hK.out _ _ (Below.refl _ _) rfl _ rfl
                      case e1_28 =>
                        intro wq hbw st  K hK
                        have KQ := HB.out.2.2.trans (hbw.mono HB.out.2.2.size)
                        simp only [Act.put, List.setIfInBounds_toArray, List.set_cons_zero, List.set_cons_succ] at hK ⊢
                        unfold opStep
                        rw [if_pos (by rfl)]
                        go_simp
                        exact hK.out _ _ (Below.refl _ _) rfl _ rfl
                      case e1_fin =>
                        intro wq hbw
                        try simp only [FinAll]
                        simp only [Act.put, List.setIfInBounds_toArray, List.set_cons_zero, List.set_cons_succ]
                        have KQ := HB.out.2.2.trans (hbw.mono HB.out.2.2.size)
                        go_wp2
                        go_ret
                        exact ⟨rfl, KQ⟩
                  · have HM0 : Hid (((toB x.obj).toList == (toB y.obj).toList) = false) := Lib.hid (by rw [beq_toB]; simpa using m0)
                    obtain rfl : res = false := HNK.out fun e => m0 (by rw [e])
                    clear HNK HGK HNOL HFIN m0
                    go_wp2_with fail
                    refine region_left [.is (.pointer (some ⟨w.heap.size, 3, none⟩)), .is (.slice (some ⟨b1, o1, none⟩) a.wr.length t33), .is (.int .i64 (k : Int)), .is (.pointer (some ⟨b1, o1 + k * 2, none⟩)), .is (.pointer (some ⟨b1, o1 + k * 2, none⟩)), .is (.string (toB x.obj)), .is (.pointer (some ⟨w.heap.size + 1, 3, none⟩)), .is (.slice (some ⟨b2, o2, none⟩) b.wr.length t43), .is (.int .i64 (k : Int)), .is (.pointer (some ⟨b2, o2 + k * 2, none⟩)), .is (.pointer (some ⟨b2, o2 + k * 2, none⟩)), .is (.string (toB y.obj)), .is (.bool true), .is (.bool true), .is undef, .is undef, .is undef, .is undef, .is undef, .is undef, .is undef, .is undef, .is undef, .is undef, .is undef, .is undef, .is undef, .is undef, .is (.bool true)] (by kernel_rfl) rfl (by kernel_rfl) (by kernel_rfl) (.cons ?e0_0 (.cons ?e0_1 (.cons ?e0_2 (.cons ?e0_3 (.cons ?e0_4 (.cons ?e0_5 (.cons ?e0_6 (.cons ?e0_7 (.cons ?e0_8 (.cons ?e0_9 (.cons ?e0_10 (.cons ?e0_11 (.cons ?e0_12 (.cons ?e0_13 (.cons ?e0_14 (.cons ?e0_15 (.cons ?e0_16 (.cons ?e0_17 (.cons ?e0_18 (.cons ?e0_19 (.cons ?e0_20 (.cons ?e0_21 (.cons ?e0_22 (.cons ?e0_23 (.cons ?e0_24 (.cons ?e0_25 (.cons ?e0_26 (.cons ?e0_27 (.cons ?e0_28 .nil))))))))))))))))))))))))))))) ?e0_fin
                    case e0_0 =>
                      intro wq hbw st  K hK
                      have KQ := HB.out.2.2.trans (hbw.mono HB.out.2.2.size)
                      simp only [Act.put, List.setIfInBounds_toArray, List.set_cons_zero, List.set_cons_succ] at hK ⊢
                      unfold opStep
                      rw [if_pos (by rfl)]
                      go_simp
                      exact hK.out _ _ (Below.refl _ _) rfl _ rfl
                    case e0_1 =>
                      intro wq hbw st  K hK
                      have KQ := HB.out.2.2.trans (hbw.mono HB.out.2.2.size)
                      simp only [Act.put, List.setIfInBounds_toArray, List.set_cons_zero, List.set_cons_succ] at hK ⊢
                      unfold opStep
                      rw [if_pos (by rfl)]
                      have d0 : wq.cell? ⟨w.heap.size, 3, none⟩ = some (.slice (some ⟨b1, o1, none⟩) a.wr.length t33) := (HB.out.1.on hbw).cell 3
                      go_simp
                      exact hK.out _ _ (Below.refl _ _) rfl _ rfl
                    case e0_2 =>
                      intro wq hbw st  K hK
                      have KQ := HB.out.2.2.trans (hbw.mono HB.out.2.2.size)
                      simp only [Act.put, List.setIfInBounds_toArray, List.set_cons_zero, List.set_cons_succ] at hK ⊢
                      unfold opStep
                      rw [if_pos (by rfl)]
                      go_simp
                      exact hK.out _ _ (Below.refl _ _) rfl _ rfl
                    case e0_3 =>
                      intro wq hbw st  K hK
                      have KQ := HB.out.2.2.trans (hbw.mono HB.out.2.2.size)
                      simp only [Act.put, List.setIfInBounds_toArray, List.set_cons_zero, List.set_cons_succ] at hK ⊢
                      unfold opStep
                      rw [if_pos (by rfl)]
                      go_simp
                      exact hK.out _ _ (Below.refl _ _) rfl _ rfl
                    case e0_4 =>
                      intro wq hbw st  K hK
                      have KQ := HB.out.2.2.trans (hbw.mono HB.out.2.2.size)
                      simp only [Act.put, List.setIfInBounds_toArray, List.set_cons_zero, List.set_cons_succ] at hK ⊢
                      unfold opStep
                      rw [if_pos (by rfl)]
                      go_simp
                      exact hK.out _ _ (Below.refl _ _) rfl _ rfl
                    case e0_5 =>
                      intro wq hbw st  K hK
                      have KQ := HB.out.2.2.trans (hbw.mono HB.out.2.2.size)
                      simp only [Act.put, List.setIfInBounds_toArray, List.set_cons_zero, List.set_cons_succ] at hK ⊢
                      unfold opStep
                      rw [if_pos (by rfl)]
                      have dd := Lib.hid (HC1.out wq KQ)
                      have d0 := dd.out.1
                      go_simp
                      exact hK.out _ _ (Below.refl _ _) rfl _ rfl
                    case e0_6 =>
                      intro wq hbw st  K hK
                      have KQ := HB.out.2.2.trans (hbw.mono HB.out.2.2.size)
                      simp only [Act.put, List.setIfInBounds_toArray, List.set_cons_zero, List.set_cons_succ] at hK ⊢
                      unfold opStep
                      rw [if_pos (by rfl)]
                      go_simp
                      exact hK.out _ _ (Below.refl _ _) rfl _ rfl
                    case e0_7 =>
                      intro wq hbw st  K hK
                      have KQ := HB.out.2.2.trans (hbw.mono HB.out.2.2.size)
                      simp only [Act.put, List.setIfInBounds_toArray, List.set_cons_zero, List.set_cons_succ] at hK ⊢
                      unfold opStep
                      rw [if_pos (by rfl)]
                      have d0 : wq.cell? ⟨w.heap.size + 1, 3, none⟩ = some (.slice (some ⟨b2, o2, none⟩) b.wr.length t43) := (HB.out.2.1.on hbw).cell 3
                      go_simp
                      exact hK.out _ _ (Below.refl _ _) rfl _ rfl
                    case e0_8 =>
                      intro wq hbw st  K hK
                      have KQ := HB.out.2.2.trans (hbw.mono HB.out.2.2.size)
                      simp only [Act.put, List.setIfInBounds_toArray, List.set_cons_zero, List.set_cons_succ] at hK ⊢
                      unfold opStep
                      rw [if_pos (by rfl)]
                      go_simp
                      exact hK.out _ _ (Below.refl _ _) rfl _ rfl
                    case e0_9 =>
                      intro wq hbw st  K hK
                      have KQ := HB.out.2.2.trans (hbw.mono HB.out.2.2.size)
                      simp only [Act.put, List.setIfInBounds_toArray, List.set_cons_zero, List.set_cons_succ] at hK ⊢
                      unfold opStep
                      rw [if_pos (by rfl)]
                      go_simp
                      exact hK.out _ _ (Below.refl _ _) rfl _ rfl
                    case e0_10 =>
                      intro wq hbw st  K hK
                      have KQ := HB.out.2.2.trans (hbw.mono HB.out.2.2.size)
                      simp only [Act.put, List.setIfInBounds_toArray, List.set_cons_zero, List.set_cons_succ] at hK ⊢
                      unfold opStep
                      rw [if_pos (by rfl)]
                      go_simp
                      exact hK.out _ _ (Below.refl _ _) rfl _ rfl
                    case e0_11 =>
                      intro wq hbw st  K hK
                      have KQ := HB.out.2.2.trans (hbw.mono HB.out.2.2.size)
                      simp only [Act.put, List.setIfInBounds_toArray, List.set_cons_zero, List.set_cons_succ] at hK ⊢
                      unfold opStep
                      rw [if_pos (by rfl)]
                      have dd := Lib.hid (HC2.out wq KQ)
                      have d0 := dd.out.1
                      go_simp
                      exact hK.out _ _ (Below.refl _ _) rfl _ rfl
                    case e0_12 =>
                      intro wq hbw st  K hK
                      have KQ := HB.out.2.2.trans (hbw.mono HB.out.2.2.size)
                      simp only [Act.put, List.setIfInBounds_toArray, List.set_cons_zero, List.set_cons_succ] at hK ⊢
                      unfold opStep
                      rw [if_pos (by rfl)]
                      have nn := HM0.out
                      go_simp
                      exact hK.out _ _ (Below.refl _ _) rfl _ rfl
                    case e0_13 =>
                      intro wq hbw st  K hK
                      have KQ := HB.out.2.2.trans (hbw.mono HB.out.2.2.size)
                      simp only [Act.put, List.setIfInBounds_toArray, List.set_cons_zero, List.set_cons_succ] at hK ⊢
                      unfold opStep
                      rw [if_pos (by rfl)]
                      go_simp
                      exact hK.out _ _ (Below.refl _ _) rfl _ rfl
                    case e0_14 =>
                      intro wq hbw st  K hK
                      have KQ := HB.out.2.2.trans (hbw.mono HB.out.2.2.size)
                      simp only [Act.put, List.setIfInBounds_toArray, List.set_cons_zero, List.set_cons_succ] at hK ⊢
                      unfold opStep
                      rw [if_neg (by change ¬ (false = true); exact Bool.false_ne_true)]
                      exact hK.out _ _ (Below.refl _ _) rfl _ rfl
                    case e0_15 =>
                      intro wq hbw st  K hK
                      have KQ := HB.out.2.2.trans (hbw.mono HB.out.2.2.size)
                      simp only [Act.put, List.setIfInBounds_toArray, List.set_cons_zero, List.set_cons_succ] at hK ⊢
                      unfold opStep
                      rw [if_neg (by change ¬ (false = true); exact Bool.false_ne_true)]
                      exact hK.out _ _ (Below.refl _ _) rfl _ rfl
                    case e0_16 =>
                      intro wq hbw st  K hK
                      have KQ := HB.out.2.2.trans (hbw.mono HB.out.2.2.size)
                      simp only [Act.put, List.setIfInBounds_toArray, List.set_cons_zero, List.set_cons_succ] at hK ⊢
                      unfold opStep
                      rw [if_neg (by change ¬ (false = true); exact Bool.false_ne_true)]
                      exact hK.out _ _ (Below.refl _ _) rfl _ rfl
                    case e0_17 =>
                      intro wq hbw st  K hK
                      have KQ := HB.out.2.2.trans (hbw.mono HB.out.2.2.size)
                      simp only [Act.put, List.setIfInBounds_toArray, List.set_cons_zero, List.set_cons_succ] at hK ⊢
                      unfold opStep
                      rw [if_neg (by change ¬ (false = true); exact Bool.false_ne_true)]
                      exact hK.out _ _ (Below.refl _ _) rfl _ rfl
                    case e0_18 =>
                      intro wq hbw st  K hK
                      have KQ := HB.out.2.2.trans (hbw.mono HB.out.2.2.size)
                      simp only [Act.put, List.setIfInBounds_toArray, List.set_cons_zero, List.set_cons_succ] at hK ⊢
                      unfold opStep
                      rw [if_neg (by change ¬ (false = true); exact Bool.false_ne_true)]
                      exact hK.out _ _ (Below.refl _ _) rfl _ rfl
                    case e0_19 =>
                      intro wq hbw st  K hK
                      have KQ := HB.out.2.2.trans (hbw.mono HB.out.2.2.size)
                      simp only [Act.put, List.setIfInBounds_toArray, List.set_cons_zero, List.set_cons_succ] at hK ⊢
                      unfold opStep
                      rw [if_neg (by change ¬ (false = true); exact Bool.false_ne_true)]
                      exact hK.out _ _ (Below.refl _ _) rfl _ rfl
                    case e0_20 =>
                      intro wq hbw st  K hK
                      have KQ := HB.out.2.2.trans (hbw.mono HB.out.2.2.size)
                      simp only [Act.put, List.setIfInBounds_toArray, List.set_cons_zero, List.set_cons_succ] at hK ⊢
                      unfold opStep
                      rw [if_neg (by change ¬ (false = true); exact Bool.false_ne_true)]
                      exact hK.out _ _ (Below.refl _ _) rfl _ rfl
                    case e0_21 =>
                      intro wq hbw st  K hK
                      have KQ := HB.out.2.2.trans (hbw.mono HB.out.2.2.size)
                      simp only [Act.put, List.setIfInBounds_toArray, List.set_cons_zero, List.set_cons_succ] at hK ⊢
                      unfold opStep
                      rw [if_neg (by change ¬ (false = true); exact Bool.false_ne_true)]
                      exact hK.out _ _ (Below.refl _ _) rfl _ rfl
                    case e0_22 =>
                      intro wq hbw st  K hK
                      have KQ := HB.out.2.2.trans (hbw.mono HB.out.2.2.size)
                      simp only [Act.put, List.setIfInBounds_toArray, List.set_cons_zero, List.set_cons_succ] at hK ⊢
                      unfold opStep
                      rw [if_neg (by change ¬ (false = true); exact Bool.false_ne_true)]
                      exact hK.out _ _ (Below.refl _ _) rfl _ rfl
                    case e0_23 =>
                      intro wq hbw st  K hK
                      have KQ := HB.out.2.2.trans (hbw.mono HB.out.2.2.size)
                      simp only [Act.put, List.setIfInBounds_toArray, List.set_cons_zero, List.set_cons_succ] at hK ⊢
                      unfold opStep
                      rw [if_neg (by change ¬ (false = true); exact Bool.false_ne_true)]
                      exact hK.out _ _ (Below.refl _ _) rfl _ rfl
                    case e0_24 =>
                      intro wq hbw st  K hK
                      have KQ := HB.out.2.2.trans (hbw.mono HB.out.2.2.size)
                      simp only [Act.put, List.setIfInBounds_toArray, List.set_cons_zero, List.set_cons_succ] at hK ⊢
                      unfold opStep
                      rw [if_neg (by change ¬ (false = true); exact Bool.false_ne_true)]
                      exact hK.out _ _ (Below.refl _ _) rfl _ rfl
                    case e0_25 =>
                      intro wq hbw st  K hK
                      have KQ := HB.out.2.2.trans (hbw.mono HB.out.2.2.size)
                      simp only [Act.put, List.setIfInBounds_toArray, List.set_cons_zero, List.set_cons_succ] at hK ⊢
                      unfold opStep
                      rw [if_neg (by change ¬ (false = true); exact Bool.false_ne_true)]
                      exact hK.out _ _ (Below.refl _ _) rfl _ rfl
                    case e0_26 =>
                      intro wq hbw st  K hK
                      have KQ := HB.out.2.2.trans (hbw.mono HB.out.2.2.size)
                      simp only [Act.put, List.setIfInBounds_toArray, List.set_cons_zero, List.set_cons_succ] at hK ⊢
                      unfold opStep
                      rw [if_neg (by change ¬ (false = true); exact Bool.false_ne_true)]
                      exact hK.out _ _ (Below.refl _ _) rfl _ rfl
                    case e0_27 =>
                      intro wq hbw st  K hK
                      have KQ := HB.out.2.2.trans (hbw.mono HB.out.2.2.size)
                      simp only [Act.put, List.setIfInBounds_toArray, List.set_cons_zero, List.set_cons_succ] at hK ⊢
                      unfold opStep
                      rw [if_neg (by change ¬ (false = true); exact Bool.false_ne_true)]
                      exact hK.out _ _ (Below.refl _ _) rfl _ rfl
                    case e0_28 =>
                      intro wq hbw st  K hK
                      have KQ := HB.out.2.2.trans (hbw.mono HB.out.2.2.size)
                      simp only [Act.put, List.setIfInBounds_toArray, List.set_cons_zero, List.set_cons_succ] at hK ⊢
                      unfold opStep
                      rw [if_pos (by rfl)]
                      go_simp
                      exact hK.out _ _ (Below.refl _ _) rfl _ rfl
                    case e0_fin =>
                      intro wq hbw
                      try simp only [FinAll]
                      simp only [Act.put, List.setIfInBounds_toArray, List.set_cons_zero, List.set_cons_succ]
                      have KQ := HB.out.2.2.trans (hbw.mono HB.out.2.2.size)
                      go_wp2
                      go_ret
                      exact ⟨rfl, KQ⟩
                · have hki : ¬ (k : Int) < a.wr.length := by omega
                  obtain rfl : res = true := HFIN.out (List.ext_getElem HLEN.out fun j h1 h2 => HALL.out j h1 h2 (by omega))
                  go_wp2
                  go_ret
                  exact ⟨rfl, HB.out.2.2⟩
            · have HN5 : Hid (((a.wr.length : Int) != (b.wr.length : Int)) = true) := Lib.hid (by simpa using fun h => n5 (by omega))
              obtain rfl : res = false := HNO.out fun e => n5 (by rw [e])
              clear HNO HYES n0 n1 n2 n3 n4 n5
              go_enter Try.func68, Try.ntmps68
              go_upto_region 1 with fail
              have HB := Lib.hid (two_boxes w 81 #[.int .i64 a.c, .int .i64 a.s, .int .i64 a.k, .slice s33 a.wr.length t33, .int .i64 a.r, .slice s35 a.tag.length t35] #[.int .i64 b.c, .int .i64 b.s, .int .i64 b.k, .slice s43 b.wr.length t43, .int .i64 b.r, .slice s45 b.tag.length t45])
              generalize hw0 : World.alloc (World.alloc w _) _ = w0 at HB ⊢
              clear hw0
              have d10 : w0.cell? ⟨w.heap.size, 0, none⟩ = some (.int .i64 a.c) := HB.out.1.cell 0
              have d11 : w0.cell? ⟨w.heap.size, 1, none⟩ = some (.int .i64 a.s) := HB.out.1.cell 1
              have d12 : w0.cell? ⟨w.heap.size, 2, none⟩ = some (.int .i64 a.k) := HB.out.1.cell 2
              have d14 : w0.cell? ⟨w.heap.size, 4, none⟩ = some (.int .i64 a.r) := HB.out.1.cell 4
              have d15 : w0.cell? ⟨w.heap.size, 5, none⟩ = some (.slice s35 a.tag.length t35) := HB.out.1.cell 5
              have d20 : w0.cell? ⟨w.heap.size + 1, 0, none⟩ = some (.int .i64 b.c) := HB.out.2.1.cell 0
              have d21 : w0.cell? ⟨w.heap.size + 1, 1, none⟩ = some (.int .i64 b.s) := HB.out.2.1.cell 1
              have d22 : w0.cell? ⟨w.heap.size + 1, 2, none⟩ = some (.int .i64 b.k) := HB.out.2.1.cell 2
              have d24 : w0.cell? ⟨w.heap.size + 1, 4, none⟩ = some (.int .i64 b.r) := HB.out.2.1.cell 4
              have d25 : w0.cell? ⟨w.heap.size + 1, 5, none⟩ = some (.slice s45 b.tag.length t45) := HB.out.2.1.cell 5
              have nn0 := HN0.out
              have nn1 := HN1.out
              have nn2 := HN2.out
              have nn3 := HN3.out
              have nn5 := HN5.out
              have HCL := Lib.hid (same_bytes _ _ a.tag b.tag w0 (HT.out.1.on HB.out.2.2) (HT.out.2.on HB.out.2.2))
              rw [HN4.out] at HCL
              go_wp2_with fail
              refine HCL.out.mono ?_
              rintro e w1 ⟨rfl, hb1⟩
              have HB1 := Lib.hid (⟨HB.out.1.on hb1, HB.out.2.1.on hb1, HB.out.2.2.trans (hb1.mono HB.out.2.2.size)⟩ : Blk w1 w.heap.size 81 #[.int .i64 a.c, .int .i64 a.s, .int .i64 a.k, .slice s33 a.wr.length t33, .int .i64 a.r, .slice s35 a.tag.length t35] ∧ Blk w1 (w.heap.size + 1) 81 #[.int .i64 b.c, .int .i64 b.s, .int .i64 b.k, .slice s43 b.wr.length t43, .int .i64 b.r, .slice s45 b.tag.length t45] ∧ Below w.heap.size w w1)
              clear d10 d20 d11 d21 d12 d22 d14 d24 d15 d25
              clear HCL HB hb1
              have d13 : w1.cell? ⟨w.heap.size, 3, none⟩ = some (.slice s33 a.wr.length t33) := HB1.out.1.cell 3
              have d23 : w1.cell? ⟨w.heap.size + 1, 3, none⟩ = some (.slice s43 b.wr.length t43) := HB1.out.2.1.cell 3
              go_wp2
              go_ret
              exact ⟨rfl, HB1.out.2.2⟩
          · have HN4 : Hid (eqb a.tag b.tag = false) := Lib.hid (eqb_neg n4)
            obtain rfl : res = false := HNO.out fun e => n4 (by rw [e])
            clear HNO HYES n0 n1 n2 n3 n4
            go_enter Try.func68, Try.ntmps68
            go_upto_region 1 with fail
            have HB := Lib.hid (two_boxes w 81 #[.int .i64 a.c, .int .i64 a.s, .int .i64 a.k, .slice s33 a.wr.length t33, .int .i64 a.r, .slice s35 a.tag.length t35] #[.int .i64 b.c, .int .i64 b.s, .int .i64 b.k, .slice s43 b.wr.length t43, .int .i64 b.r, .slice s45 b.tag.length t45])
            generalize hw0 : World.alloc (World.alloc w _) _ = w0 at HB ⊢
            clear hw0
            have d10 : w0.cell? ⟨w.heap.size, 0, none⟩ = some (.int .i64 a.c) := HB.out.1.cell 0
            have d11 : w0.cell? ⟨w.heap.size, 1, none⟩ = some (.int .i64 a.s) := HB.out.1.cell 1
            have d12 : w0.cell? ⟨w.heap.size, 2, none⟩ = some (.int .i64 a.k) := HB.out.1.cell 2
            have d14 : w0.cell? ⟨w.heap.size, 4, none⟩ = some (.int .i64 a.r) := HB.out.1.cell 4
            have d15 : w0.cell? ⟨w.heap.size, 5, none⟩ = some (.slice s35 a.tag.length t35) := HB.out.1.cell 5
            have d20 : w0.cell? ⟨w.heap.size + 1, 0, none⟩ = some (.int .i64 b.c) := HB.out.2.1.cell 0
            have d21 : w0.cell? ⟨w.heap.size + 1, 1, none⟩ = some (.int .i64 b.s) := HB.out.2.1.cell 1
            have d22 : w0.cell? ⟨w.heap.size + 1, 2, none⟩ = some (.int .i64 b.k) := HB.out.2.1.cell 2
            have d24 : w0.cell? ⟨w.heap.size + 1, 4, none⟩ = some (.int .i64 b.r) := HB.out.2.1.cell 4
            have d25 : w0.cell? ⟨w.heap.size + 1, 5, none⟩ = some (.slice s45 b.tag.length t45) := HB.out.2.1.cell 5
            have nn0 := HN0.out
            have nn1 := HN1.out
            have nn2 := HN2.out
            have nn3 := HN3.out
            have HCL := Lib.hid (same_bytes _ _ a.tag b.tag w0 (HT.out.1.on HB.out.2.2) (HT.out.2.on HB.out.2.2))
            rw [HN4.out] at HCL
            go_wp2_with fail
            refine HCL.out.mono ?_
            rintro e w1 ⟨rfl, hb1⟩
            have HB1 := Lib.hid (⟨HB.out.1.on hb1, HB.out.2.1.on hb1, HB.out.2.2.trans (hb1.mono HB.out.2.2.size)⟩ : Blk w1 w.heap.size 81 #[.int .i64 a.c, .int .i64 a.s, .int .i64 a.k, .slice s33 a.wr.length t33, .int .i64 a.r, .slice s35 a.tag.length t35] ∧ Blk w1 (w.heap.size + 1) 81 #[.int .i64 b.c, .int .i64 b.s, .int .i64 b.k, .slice s43 b.wr.length t43, .int .i64 b.r, .slice s45 b.tag.length t45] ∧ Below w.heap.size w w1)
            clear d10 d20 d11 d21 d12 d22 d14 d24 d15 d25
            clear HCL HB hb1
            have d13 : w1.cell? ⟨w.heap.size, 3, none⟩ = some (.slice s33 a.wr.length t33) := HB1.out.1.cell 3
            have d23 : w1.cell? ⟨w.heap.size + 1, 3, none⟩ = some (.slice s43 b.wr.length t43) := HB1.out.2.1.cell 3
            go_wp2
            go_ret
            exact ⟨rfl, HB1.out.2.2⟩
        · have HN3 : Hid ((a.r != b.r) = true) := Lib.hid (by simpa using n3)
          obtain rfl : res = false := HNO.out fun e => n3 (by rw [e])
          clear HNO HYES n0 n1 n2 n3
          go_enter Try.func68, Try.ntmps68
          go_upto_region 1 with fail
          have HB := Lib.hid (two_boxes w 81 #[.int .i64 a.c, .int .i64 a.s, .int .i64 a.k, .slice s33 a.wr.length t33, .int .i64 a.r, .slice s35 a.tag.length t35] #[.int .i64 b.c, .int .i64 b.s, .int .i64 b.k, .slice s43 b.wr.length t43, .int .i64 b.r, .slice s45 b.tag.length t45])
          generalize hw0 : World.alloc (World.alloc w _) _ = w0 at HB ⊢
          clear hw0
          have d10 : w0.cell? ⟨w.heap.size, 0, none⟩ = some (.int .i64 a.c) := HB.out.1.cell 0
          have d11 : w0.cell? ⟨w.heap.size, 1, none⟩ = some (.int .i64 a.s) := HB.out.1.cell 1
          have d12 : w0.cell? ⟨w.heap.size, 2, none⟩ = some (.int .i64 a.k) := HB.out.1.cell 2
          have d14 : w0.cell? ⟨w.heap.size, 4, none⟩ = some (.int .i64 a.r) := HB.out.1.cell 4
          have d15 : w0.cell? ⟨w.heap.size, 5, none⟩ = some (.slice s35 a.tag.length t35) := HB.out.1.cell 5
          have d20 : w0.cell? ⟨w.heap.size + 1, 0, none⟩ = some (.int .i64 b.c) := HB.out.2.1.cell 0
          have d21 : w0.cell? ⟨w.heap.size + 1, 1, none⟩ = some (.int .i64 b.s) := HB.out.2.1.cell 1
          have d22 : w0.cell? ⟨w.heap.size + 1, 2, none⟩ = some (.int .i64 b.k) := HB.out.2.1.cell 2
          have d24 : w0.cell? ⟨w.heap.size + 1, 4, none⟩ = some (.int .i64 b.r) := HB.out.2.1.cell 4
          have d25 : w0.cell? ⟨w.heap.size + 1, 5, none⟩ = some (.slice s45 b.tag.length t45) := HB.out.2.1.cell 5
          have nn0 := HN0.out
          have nn1 := HN1.out
          have nn2 := HN2.out
          have nn3 := HN3.out
          go_wp2
          go_ret
          exact ⟨rfl, HB.out.2.2⟩
      · have HN2 : Hid ((a.k != b.k) = true) := Lib.hid (by simpa using n2)
        obtain rfl : res = false := HNO.out fun e => n2 (by rw [e])
        clear HNO HYES n0 n1 n2
        go_enter Try.func68, Try.ntmps68
        go_upto_region 1 with fail
        have HB := Lib.hid (two_boxes w 81 #[.int .i64 a.c, .int .i64 a.s, .int .i64 a.k, .slice s33 a.wr.length t33, .int .i64 a.r, .slice s35 a.tag.length t35] #[.int .i64 b.c, .int .i64 b.s, .int .i64 b.k, .slice s43 b.wr.length t43, .int .i64 b.r, .slice s45 b.tag.length t45])
        generalize hw0 : World.alloc (World.alloc w _) _ = w0 at HB ⊢
        clear hw0
        have d10 : w0.cell? ⟨w.heap.size, 0, none⟩ = some (.int .i64 a.c) := HB.out.1.cell 0
        have d11 : w0.cell? ⟨w.heap.size, 1, none⟩ = some (.int .i64 a.s) := HB.out.1.cell 1
        have d12 : w0.cell? ⟨w.heap.size, 2, none⟩ = some (.int .i64 a.k) := HB.out.1.cell 2
        have d14 : w0.cell? ⟨w.heap.size, 4, none⟩ = some (.int .i64 a.r) := HB.out.1.cell 4
        have d15 : w0.cell? ⟨w.heap.size, 5, none⟩ = some (.slice s35 a.tag.length t35) := HB.out.1.cell 5
        have d20 : w0.cell? ⟨w.heap.size + 1, 0, none⟩ = some (.int .i64 b.c) := HB.out.2.1.cell 0
        have d21 : w0.cell? ⟨w.heap.size + 1, 1, none⟩ = some (.int .i64 b.s) := HB.out.2.1.cell 1
        have d22 : w0.cell? ⟨w.heap.size + 1, 2, none⟩ = some (.int .i64 b.k) := HB.out.2.1.cell 2
        have d24 : w0.cell? ⟨w.heap.size + 1, 4, none⟩ = some (.int .i64 b.r) := HB.out.2.1.cell 4
        have d25 : w0.cell? ⟨w.heap.size + 1, 5, none⟩ = some (.slice s45 b.tag.length t45) := HB.out.2.1.cell 5
        have nn0 := HN0.out
        have nn1 := HN1.out
        have nn2 := HN2.out
        go_wp2
        go_ret
        exact ⟨rfl, HB.out.2.2⟩
    · have HN1 : Hid ((a.s != b.s) = true) := Lib.hid (by simpa using n1)
      obtain rfl : res = false := HNO.out fun e => n1 (by rw [e])
      clear HNO HYES n0 n1
      go_enter Try.func68, Try.ntmps68
      go_upto_region 1 with fail
      have HB := Lib.hid (two_boxes w 81 #[.int .i64 a.c, .int .i64 a.s, .int .i64 a.k, .slice s33 a.wr.length t33, .int .i64 a.r, .slice s35 a.tag.length t35] #[.int .i64 b.c, .int .i64 b.s, .int .i64 b.k, .slice s43 b.wr.length t43, .int .i64 b.r, .slice s45 b.tag.length t45])
      generalize hw0 : World.alloc (World.alloc w _) _ = w0 at HB ⊢
      clear hw0
      have d10 : w0.cell? ⟨w.heap.size, 0, none⟩ = some (.int .i64 a.c) := HB.out.1.cell 0
      have d11 : w0.cell? ⟨w.heap.size, 1, none⟩ = some (.int .i64 a.s) := HB.out.1.cell 1
      have d12 : w0.cell? ⟨w.heap.size, 2, none⟩ = some (.int .i64 a.k) := HB.out.1.cell 2
      have d14 : w0.cell? ⟨w.heap.size, 4, none⟩ = some (.int .i64 a.r) := HB.out.1.cell 4
      have d15 : w0.cell? ⟨w.heap.size, 5, none⟩ = some (.slice s35 a.tag.length t35) := HB.out.1.cell 5
      have d20 : w0.cell? ⟨w.heap.size + 1, 0, none⟩ = some (.int .i64 b.c) := HB.out.2.1.cell 0
      have d21 : w0.cell? ⟨w.heap.size + 1, 1, none⟩ = some (.int .i64 b.s) := HB.out.2.1.cell 1
      have d22 : w0.cell? ⟨w.heap.size + 1, 2, none⟩ = some (.int .i64 b.k) := HB.out.2.1.cell 2
      have d24 : w0.cell? ⟨w.heap.size + 1, 4, none⟩ = some (.int .i64 b.r) := HB.out.2.1.cell 4
      have d25 : w0.cell? ⟨w.heap.size + 1, 5, none⟩ = some (.slice s45 b.tag.length t45) := HB.out.2.1.cell 5
      have nn0 := HN0.out
      have nn1 := HN1.out
      go_wp2
      go_ret
      exact ⟨rfl, HB.out.2.2⟩
  · have HN0 : Hid ((a.c != b.c) = true) := Lib.hid (by simpa using n0)
    obtain rfl : res = false := HNO.out fun e => n0 (by rw [e])
    clear HNO HYES n0
    go_enter Try.func68, Try.ntmps68
    go_upto_region 1 with fail
    have HB := Lib.hid (two_boxes w 81 #[.int .i64 a.c, .int .i64 a.s, .int .i64 a.k, .slice s33 a.wr.length t33, .int .i64 a.r, .slice s35 a.tag.length t35] #[.int .i64 b.c, .int .i64 b.s, .int .i64 b.k, .slice s43 b.wr.length t43, .int .i64 b.r, .slice s45 b.tag.length t45])
    generalize hw0 : World.alloc (World.alloc w _) _ = w0 at HB ⊢
    clear hw0
    have d10 : w0.cell? ⟨w.heap.size, 0, none⟩ = some (.int .i64 a.c) := HB.out.1.cell 0
    have d11 : w0.cell? ⟨w.heap.size, 1, none⟩ = some (.int .i64 a.s) := HB.out.1.cell 1
    have d12 : w0.cell? ⟨w.heap.size, 2, none⟩ = some (.int .i64 a.k) := HB.out.1.cell 2
    have d14 : w0.cell? ⟨w.heap.size, 4, none⟩ = some (.int .i64 a.r) := HB.out.1.cell 4
    have d15 : w0.cell? ⟨w.heap.size, 5, none⟩ = some (.slice s35 a.tag.length t35) := HB.out.1.cell 5
    have d20 : w0.cell? ⟨w.heap.size + 1, 0, none⟩ = some (.int .i64 b.c) := HB.out.2.1.cell 0
    have d21 : w0.cell? ⟨w.heap.size + 1, 1, none⟩ = some (.int .i64 b.s) := HB.out.2.1.cell 1
    have d22 : w0.cell? ⟨w.heap.size + 1, 2, none⟩ = some (.int .i64 b.k) := HB.out.2.1.cell 2
    have d24 : w0.cell? ⟨w.heap.size + 1, 4, none⟩ = some (.int .i64 b.r) := HB.out.2.1.cell 4
    have d25 : w0.cell? ⟨w.heap.size + 1, 5, none⟩ = some (.slice s45 b.tag.length t45) := HB.out.2.1.cell 5
    have nn0 := HN0.out
    go_wp2
    go_ret
    exact ⟨rfl, HB.out.2.2⟩
end Go.Proofs.Ytmcdmcnbnnfhnaa
