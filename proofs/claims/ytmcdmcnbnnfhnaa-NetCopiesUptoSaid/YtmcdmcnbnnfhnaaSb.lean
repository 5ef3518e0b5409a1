/-
  Chapter 28: equality of lists of identities of reads and of acks (the reference).
-/
import Derived.Test.YtmcdmcnbnnfhnaaSa
namespace Go.Proofs.Ytmcdmcnbnnfhnaa
open Go.RowKit
set_option maxRecDepth 100000 in
set_option maxHeartbeats 4000000 in
theorem same_reads {P P' : Nat → Prop} (v u : Value) (a b : List RidM) (w : World) (hv : ReadsD P w v (ridsD a)) (hu : ReadsD P' w u (ridsD b)) : Calls Try.prog 35 #[v, u] w (BoolMade w (eqb a b)) := by
  obtain ⟨s1, k1, rfl, hl1, hm1, -, hL1⟩ := ReadsD.slcM (f := ridD) hv
  obtain ⟨s2, k2, rfl, hl2, hm2, -, hL2⟩ := ReadsD.slcM (f := ridD) hu
  unfold maxLen at hm1 hm2
  have HV := Lib.hid (And.intro hv hu)
  clear hv hu
  have HNO : Hid (¬ a = b → eqb a b = false) := Lib.hid eqb_neg
  have HYES : Hid (a = b → eqb a b = true) := Lib.hid eqb_pos
  generalize eqb a b = res at *
  by_cases hlen : a.length = b.length
  · have e1 : ((a.length : Int) != (b.length : Int)) = false := by rw [hlen]; simp
    have HLEN := Lib.hid hlen
    clear hlen
    go_enter Try.func35, Try.ntmps35
    go_wp2
    clear e1
    go_loopg [5] a.length (fun m i wr => ∃ k : Nat, m + k = a.length ∧ i = .int .i64 k ∧ (∀ j (h1 : j < a.length) (h2 : j < b.length), j < k → a[j] = b[j]) ∧ Below w.heap.size w wr)
    case atStart => exact ⟨0, by omega, rfl, fun j _ _ h => by omega, Below.refl _ _⟩
    case round =>
      rename World => w1
      obtain ⟨k, hmk, rfl, hall, hb⟩ := hrel
      have HM := Lib.hid hmk
      have HALL := Lib.hid hall
      have HB := Lib.hid hb
      have hk : k ≤ a.length := by omega
      have hk0 : (0 : Int) ≤ (k : Int) := by omega
      clear hmk hall hb
      by_cases hlt : k < a.length
      · have hlt2 : k < b.length := by have := HLEN.out; omega
        have hki : (k : Int) < a.length := by omega
        have hkj : (k : Int) < b.length := by omega
        obtain ⟨b1, o1, c1, cs1, e1, -, -, -, -, g1, q1⟩ := ReadsD.item (f := ridD) HV.out.1 hlt
        obtain ⟨b2, o2, c2, cs2, e2, -, -, -, -, g2, q2⟩ := ReadsD.item (f := ridD) HV.out.2 hlt2
        injection e1 with e1 e3 e4
        injection e2 with e2 e5 e6
        subst e1 e2
        clear e3 e4 e5 e6
        have HNK : Hid (a[k] ≠ b[k] → res = false) := Lib.hid fun h => HNO.out fun h2 => h (by simp only [h2])
        have HGK : Hid (a[k] = b[k] → ∀ j (h1 : j < a.length) (h2 : j < b.length), j < k + 1 → a[j] = b[j]) := Lib.hid fun h1 j hj hj2 hjk => by
          by_cases h2 : j = k
          · subst h2; exact h1
          · exact HALL.out j hj hj2 (by omega)
        generalize a[k] = x at *
        generalize b[k] = y at *
        have HLT := Lib.hid (And.intro hlt hlt2)
        clear hlt hlt2
        obtain ⟨v10, cs1, rfl, r10, qq10⟩ := CellsD.cons q1
        clear q1
        have e10 := r10.i
        subst e10
        clear r10
        obtain ⟨v11, cs1, rfl, r11, qq11⟩ := CellsD.cons qq10
        clear qq10
        have e11 := r11.i
        subst e11
        clear r11
        obtain ⟨v12, cs1, rfl, r12, qq12⟩ := CellsD.cons qq11
        clear qq11
        obtain ⟨s12, t12, rfl, -⟩ := r12.bslc
        have en1 := CellsD.nil qq12
        subst en1
        clear qq12
        obtain ⟨v20, cs2, rfl, r20, qq20⟩ := CellsD.cons q2
        clear q2
        have e20 := r20.i
        subst e20
        clear r20
        obtain ⟨v21, cs2, rfl, r21, qq21⟩ := CellsD.cons qq20
        clear qq20
        have e21 := r21.i
        subst e21
        clear r21
        obtain ⟨v22, cs2, rfl, r22, qq22⟩ := CellsD.cons qq21
        clear qq21
        obtain ⟨s22, t22, rfl, -⟩ := r22.bslc
        have en2 := CellsD.nil qq22
        subst en2
        clear qq22
        have HC1 := Lib.hid (fun (wq : World) (hq : Below w.heap.size w wq) => And.intro (show wq.cell? ⟨b1, o1 + k * 3, none⟩ = some (.int .i64 x.c) from g1 wq hq 0 _ rfl) (And.intro (show wq.cell? ⟨b1, o1 + k * 3 + 1, none⟩ = some (.int .i64 x.n) from g1 wq hq 1 _ rfl) (show wq.cell? ⟨b1, o1 + k * 3 + 2, none⟩ = some (.slice s12 x.tag.length t12) from g1 wq hq 2 _ rfl)))
        have HC2 := Lib.hid (fun (wq : World) (hq : Below w.heap.size w wq) => And.intro (show wq.cell? ⟨b2, o2 + k * 3, none⟩ = some (.int .i64 y.c) from g2 wq hq 0 _ rfl) (And.intro (show wq.cell? ⟨b2, o2 + k * 3 + 1, none⟩ = some (.int .i64 y.n) from g2 wq hq 1 _ rfl) (show wq.cell? ⟨b2, o2 + k * 3 + 2, none⟩ = some (.slice s22 y.tag.length t22) from g2 wq hq 2 _ rfl)))
        have HR2 := Lib.hid (And.intro r12 r22)
        clear r12 r22
        clear g1 g2
        by_cases n0 : x.c = y.c
        · have HN0 : Hid ((x.c != y.c) = false) := Lib.hid (by simp [n0])
          by_cases n1 : x.n = y.n
          · have HN1 : Hid ((x.n != y.n) = false) := Lib.hid (by simp [n1])
            by_cases n2 : x.tag = y.tag
            · have HN2 : Hid (eqb x.tag y.tag = true) := Lib.hid (eqb_pos n2)
              have HXY := Lib.hid (HGK.out (by cases x; cases y; simp only at n0 n1 n2; subst n0 n1 n2; rfl))
              clear HGK n0 n1 n2
              go_wp2_with fail
              refine region_left [.is (.slice (some ⟨b1, o1, none⟩) a.length k1), .is (.int .i64 (k : Int)), .is (.pointer (some ⟨b1, o1 + k * 3, none⟩)), .is (.pointer (some ⟨b1, o1 + k * 3, none⟩)), .is (.int .i64 x.c), .is (.slice (some ⟨b2, o2, none⟩) b.length k2), .is (.int .i64 (k : Int)), .is (.pointer (some ⟨b2, o2 + k * 3, none⟩)), .is (.pointer (some ⟨b2, o2 + k * 3, none⟩)), .is (.int .i64 y.c), .is (.bool false), .is (.bool false), .is (.slice (some ⟨b1, o1, none⟩) a.length k1), .is (.int .i64 (k : Int)), .is (.pointer (some ⟨b1, o1 + k * 3, none⟩)), .is (.pointer (some ⟨b1, o1 + k * 3 + 1, none⟩)), .is (.int .i64 x.n), .is (.slice (some ⟨b2, o2, none⟩) b.length k2), .is (.int .i64 (k : Int)), .is (.pointer (some ⟨b2, o2 + k * 3, none⟩)), .is (.pointer (some ⟨b2, o2 + k * 3 + 1, none⟩)), .is (.int .i64 y.n), .is (.bool false), .is (.bool false), .is (.bool false), .is (.slice (some ⟨b1, o1, none⟩) a.length k1), .is (.int .i64 (k : Int)), .is (.pointer (some ⟨b1, o1 + k * 3, none⟩)), .is (.pointer (some ⟨b1, o1 + k * 3 + 2, none⟩)), .is (.slice s12 x.tag.length t12), .is (.slice (some ⟨b2, o2, none⟩) b.length k2), .is (.int .i64 (k : Int)), .is (.pointer (some ⟨b2, o2 + k * 3, none⟩)), .is (.pointer (some ⟨b2, o2 + k * 3 + 2, none⟩)), .is (.slice s22 y.tag.length t22), .is (.bool true), .is (.bool false), .is (.bool false)] (by kernel_rfl) rfl (by kernel_rfl) (by kernel_rfl) (.cons ?c3_0 (.cons ?c3_1 (.cons ?c3_2 (.cons ?c3_3 (.cons ?c3_4 (.cons ?c3_5 (.cons ?c3_6 (.cons ?c3_7 (.cons ?c3_8 (.cons ?c3_9 (.cons ?c3_10 (.cons ?c3_11 (.cons ?c3_12 (.cons ?c3_13 (.cons ?c3_14 (.cons ?c3_15 (.cons ?c3_16 (.cons ?c3_17 (.cons ?c3_18 (.cons ?c3_19 (.cons ?c3_20 (.cons ?c3_21 (.cons ?c3_22 (.cons ?c3_23 (.cons ?c3_24 (.cons ?c3_25 (.cons ?c3_26 (.cons ?c3_27 (.cons ?c3_28 (.cons ?c3_29 (.cons ?c3_30 (.cons ?c3_31 (.cons ?c3_32 (.cons ?c3_33 (.cons ?c3_34 (.cons ?c3_35 (.cons ?c3_36 (.cons ?c3_37 .nil)))))))))))))))))))))))))))))))))))))) ?c3_fin
              case c3_0 =>
                intro wq hbw st  K hK
                have KQ := HB.out.trans (hbw.mono HB.out.size)
                simp only [Act.put, List.setIfInBounds_toArray, List.set_cons_zero, List.set_cons_succ] at hK ⊢
                unfold opStep
                rw [if_pos (by rfl)]
                go_simp
                exact hK.out _ _ (Below.refl _ _) rfl _ rfl
              case c3_1 =>
                intro wq hbw st  K hK
                have KQ := HB.out.trans (hbw.mono HB.out.size)
                simp only [Act.put, List.setIfInBounds_toArray, List.set_cons_zero, List.set_cons_succ] at hK ⊢
                unfold opStep
                rw [if_pos (by rfl)]
                go_simp
                exact hK.out _ _ (Below.refl _ _) rfl _ rfl
              case c3_2 =>
                intro wq hbw st  K hK
                have KQ := HB.out.trans (hbw.mono HB.out.size)
                simp only [Act.put, List.setIfInBounds_toArray, List.set_cons_zero, List.set_cons_succ] at hK ⊢
                unfold opStep
                rw [if_pos (by rfl)]
                go_simp
                exact hK.out _ _ (Below.refl _ _) rfl _ rfl
              case c3_3 =>
                intro wq hbw st  K hK
                have KQ := HB.out.trans (hbw.mono HB.out.size)
                simp only [Act.put, List.setIfInBounds_toArray, List.set_cons_zero, List.set_cons_succ] at hK ⊢
                unfold opStep
                rw [if_pos (by rfl)]
                go_simp
                exact hK.out _ _ (Below.refl _ _) rfl _ rfl
              case c3_4 =>
                intro wq hbw st  K hK
                have KQ := HB.out.trans (hbw.mono HB.out.size)
                simp only [Act.put, List.setIfInBounds_toArray, List.set_cons_zero, List.set_cons_succ] at hK ⊢
                unfold opStep
                rw [if_pos (by rfl)]
                have dd := Lib.hid (HC1.out wq KQ)
                have d0 := dd.out.1
                go_simp
                exact hK.out _ _ (Below.refl _ _) rfl _ rfl
              case c3_5 =>
                intro wq hbw st  K hK
                have KQ := HB.out.trans (hbw.mono HB.out.size)
                simp only [Act.put, List.setIfInBounds_toArray, List.set_cons_zero, List.set_cons_succ] at hK ⊢
                unfold opStep
                rw [if_pos (by rfl)]
                go_simp
                exact hK.out _ _ (Below.refl _ _) rfl _ rfl
              case c3_6 =>
                intro wq hbw st  K hK
                have KQ := HB.out.trans (hbw.mono HB.out.size)
                simp only [Act.put, List.setIfInBounds_toArray, List.set_cons_zero, List.set_cons_succ] at hK ⊢
                unfold opStep
                rw [if_pos (by rfl)]
                go_simp
                exact hK.out _ _ (Below.refl _ _) rfl _ rfl
              case c3_7 =>
                intro wq hbw st  K hK
                have KQ := HB.out.trans (hbw.mono HB.out.size)
                simp only [Act.put, List.setIfInBounds_toArray, List.set_cons_zero, List.set_cons_succ] at hK ⊢
                unfold opStep
                rw [if_pos (by rfl)]
                go_simp
                exact hK.out _ _ (Below.refl _ _) rfl _ rfl
              case c3_8 =>
                intro wq hbw st  K hK
                have KQ := HB.out.trans (hbw.mono HB.out.size)
                simp only [Act.put, List.setIfInBounds_toArray, List.set_cons_zero, List.set_cons_succ] at hK ⊢
                unfold opStep
                rw [if_pos (by rfl)]
                go_simp
                exact hK.out _ _ (Below.refl _ _) rfl _ rfl
              case c3_9 =>
                intro wq hbw st  K hK
                have KQ := HB.out.trans (hbw.mono HB.out.size)
                simp only [Act.put, List.setIfInBounds_toArray, List.set_cons_zero, List.set_cons_succ] at hK ⊢
                unfold opStep
                rw [if_pos (by rfl)]
                have dd := Lib.hid (HC2.out wq KQ)
                have d0 := dd.out.1
                go_simp
                exact hK.out _ _ (Below.refl _ _) rfl _ rfl
              case c3_10 =>
                intro wq hbw st  K hK
                have KQ := HB.out.trans (hbw.mono HB.out.size)
                simp only [Act.put, List.setIfInBounds_toArray, List.set_cons_zero, List.set_cons_succ] at hK ⊢
                unfold opStep
                rw [if_pos (by rfl)]
                have nn := HN0.out
                go_simp
                exact hK.out _ _ (Below.refl _ _) rfl _ rfl
              case c3_11 =>
                intro wq hbw st  K hK
                have KQ := HB.out.trans (hbw.mono HB.out.size)
                simp only [Act.put, List.setIfInBounds_toArray, List.set_cons_zero, List.set_cons_succ] at hK ⊢
                unfold opStep
                rw [if_pos (by rfl)]
                go_simp
                exact hK.out _ _ (Below.refl _ _) rfl _ rfl
              case c3_12 =>
                intro wq hbw st  K hK
                have KQ := HB.out.trans (hbw.mono HB.out.size)
                simp only [Act.put, List.setIfInBounds_toArray, List.set_cons_zero, List.set_cons_succ] at hK ⊢
                unfold opStep
                rw [if_pos (by rfl)]
                go_simp
                exact hK.out _ _ (Below.refl _ _) rfl _ rfl
              case c3_13 =>
                intro wq hbw st  K hK
                have KQ := HB.out.trans (hbw.mono HB.out.size)
                simp only [Act.put, List.setIfInBounds_toArray, List.set_cons_zero, List.set_cons_succ] at hK ⊢
                unfold opStep
                rw [if_pos (by rfl)]
                go_simp
                exact hK.out _ _ (Below.refl _ _) rfl _ rfl
              case c3_14 =>
                intro wq hbw st  K hK
                have KQ := HB.out.trans (hbw.mono HB.out.size)
                simp only [Act.put, List.setIfInBounds_toArray, List.set_cons_zero, List.set_cons_succ] at hK ⊢
                unfold opStep
                rw [if_pos (by rfl)]
                go_simp
                exact hK.out _ _ (Below.refl _ _) rfl _ rfl
              case c3_15 =>
                intro wq hbw st  K hK
                have KQ := HB.out.trans (hbw.mono HB.out.size)
                simp only [Act.put, List.setIfInBounds_toArray, List.set_cons_zero, List.set_cons_succ] at hK ⊢
                unfold opStep
                rw [if_pos (by rfl)]
                go_simp
                exact hK.out _ _ (Below.refl _ _) rfl _ rfl
              case c3_16 =>
                intro wq hbw st  K hK
                have KQ := HB.out.trans (hbw.mono HB.out.size)
                simp only [Act.put, List.setIfInBounds_toArray, List.set_cons_zero, List.set_cons_succ] at hK ⊢
                unfold opStep
                rw [if_pos (by rfl)]
                have dd := Lib.hid (HC1.out wq KQ)
                have d0 := dd.out.2.1
                go_simp
                exact hK.out _ _ (Below.refl _ _) rfl _ rfl
              case c3_17 =>
                intro wq hbw st  K hK
                have KQ := HB.out.trans (hbw.mono HB.out.size)
                simp only [Act.put, List.setIfInBounds_toArray, List.set_cons_zero, List.set_cons_succ] at hK ⊢
                unfold opStep
                rw [if_pos (by rfl)]
                go_simp
                exact hK.out _ _ (Below.refl _ _) rfl _ rfl
              case c3_18 =>
                intro wq hbw st  K hK
                have KQ := HB.out.trans (hbw.mono HB.out.size)
                simp only [Act.put, List.setIfInBounds_toArray, List.set_cons_zero, List.set_cons_succ] at hK ⊢
                unfold opStep
                rw [if_pos (by rfl)]
                go_simp
                exact hK.out _ _ (Below.refl _ _) rfl _ rfl
              case c3_19 =>
                intro wq hbw st  K hK
                have KQ := HB.out.trans (hbw.mono HB.out.size)
                simp only [Act.put, List.setIfInBounds_toArray, List.set_cons_zero, List.set_cons_succ] at hK ⊢
                unfold opStep
                rw [if_pos (by rfl)]
                go_simp
                exact hK.out _ _ (Below.refl _ _) rfl _ rfl
              case c3_20 =>
                intro wq hbw st  K hK
                have KQ := HB.out.trans (hbw.mono HB.out.size)
                simp only [Act.put, List.setIfInBounds_toArray, List.set_cons_zero, List.set_cons_succ] at hK ⊢
                unfold opStep
                rw [if_pos (by rfl)]
                go_simp
                exact hK.out _ _ (Below.refl _ _) rfl _ rfl
              case c3_21 =>
                intro wq hbw st  K hK
                have KQ := HB.out.trans (hbw.mono HB.out.size)
                simp only [Act.put, List.setIfInBounds_toArray, List.set_cons_zero, List.set_cons_succ] at hK ⊢
                unfold opStep
                rw [if_pos (by rfl)]
                have dd := Lib.hid (HC2.out wq KQ)
                have d0 := dd.out.2.1
                go_simp
                exact hK.out _ _ (Below.refl _ _) rfl _ rfl
              case c3_22 =>
                intro wq hbw st  K hK
                have KQ := HB.out.trans (hbw.mono HB.out.size)
                simp only [Act.put, List.setIfInBounds_toArray, List.set_cons_zero, List.set_cons_succ] at hK ⊢
                unfold opStep
                rw [if_pos (by rfl)]
                have nn := HN1.out
                go_simp
                exact hK.out _ _ (Below.refl _ _) rfl _ rfl
              case c3_23 =>
                intro wq hbw st  K hK
                have KQ := HB.out.trans (hbw.mono HB.out.size)
                simp only [Act.put, List.setIfInBounds_toArray, List.set_cons_zero, List.set_cons_succ] at hK ⊢
                unfold opStep
                rw [if_pos (by rfl)]
                go_simp
                exact hK.out _ _ (Below.refl _ _) rfl _ rfl
              case c3_24 =>
                intro wq hbw st  K hK
                have KQ := HB.out.trans (hbw.mono HB.out.size)
                simp only [Act.put, List.setIfInBounds_toArray, List.set_cons_zero, List.set_cons_succ] at hK ⊢
                unfold opStep
                rw [if_pos (by rfl)]
                go_simp
                exact hK.out _ _ (Below.refl _ _) rfl _ rfl
              case c3_25 =>
                intro wq hbw st  K hK
                have KQ := HB.out.trans (hbw.mono HB.out.size)
                simp only [Act.put, List.setIfInBounds_toArray, List.set_cons_zero, List.set_cons_succ] at hK ⊢
                unfold opStep
                rw [if_pos (by rfl)]
                go_simp
                exact hK.out _ _ (Below.refl _ _) rfl _ rfl
              case c3_26 =>
                intro wq hbw st  K hK
                have KQ := HB.out.trans (hbw.mono HB.out.size)
                simp only [Act.put, List.setIfInBounds_toArray, List.set_cons_zero, List.set_cons_succ] at hK ⊢
                unfold opStep
                rw [if_pos (by rfl)]
                go_simp
                exact hK.out _ _ (Below.refl _ _) rfl _ rfl
              case c3_27 =>
                intro wq hbw st  K hK
                have KQ := HB.out.trans (hbw.mono HB.out.size)
                simp only [Act.put, List.setIfInBounds_toArray, List.set_cons_zero, List.set_cons_succ] at hK ⊢
                unfold opStep
                rw [if_pos (by rfl)]
                go_simp
                exact hK.out _ _ (Below.refl _ _) rfl _ rfl
              case c3_28 =>
                intro wq hbw st  K hK
                have KQ := HB.out.trans (hbw.mono HB.out.size)
                simp only [Act.put, List.setIfInBounds_toArray, List.set_cons_zero, List.set_cons_succ] at hK ⊢
                unfold opStep
                rw [if_pos (by rfl)]
                go_simp
                exact hK.out _ _ (Below.refl _ _) rfl _ rfl
              case c3_29 =>
                intro wq hbw st  K hK
                have KQ := HB.out.trans (hbw.mono HB.out.size)
                simp only [Act.put, List.setIfInBounds_toArray, List.set_cons_zero, List.set_cons_succ] at hK ⊢
                unfold opStep
                rw [if_pos (by rfl)]
                have dd := Lib.hid (HC1.out wq KQ)
                have d0 := dd.out.2.2
                go_simp
                exact hK.out _ _ (Below.refl _ _) rfl _ rfl
              case c3_30 =>
                intro wq hbw st  K hK
                have KQ := HB.out.trans (hbw.mono HB.out.size)
                simp only [Act.put, List.setIfInBounds_toArray, List.set_cons_zero, List.set_cons_succ] at hK ⊢
                unfold opStep
                rw [if_pos (by rfl)]
                go_simp
                exact hK.out _ _ (Below.refl _ _) rfl _ rfl
              case c3_31 =>
                intro wq hbw st  K hK
                have KQ := HB.out.trans (hbw.mono HB.out.size)
                simp only [Act.put, List.setIfInBounds_toArray, List.set_cons_zero, List.set_cons_succ] at hK ⊢
                unfold opStep
                rw [if_pos (by rfl)]
                go_simp
                exact hK.out _ _ (Below.refl _ _) rfl _ rfl
              case c3_32 =>
                intro wq hbw st  K hK
                have KQ := HB.out.trans (hbw.mono HB.out.size)
                simp only [Act.put, List.setIfInBounds_toArray, List.set_cons_zero, List.set_cons_succ] at hK ⊢
                unfold opStep
                rw [if_pos (by rfl)]
                go_simp
                exact hK.out _ _ (Below.refl _ _) rfl _ rfl
              case c3_33 =>
                intro wq hbw st  K hK
                have KQ := HB.out.trans (hbw.mono HB.out.size)
                simp only [Act.put, List.setIfInBounds_toArray, List.set_cons_zero, List.set_cons_succ] at hK ⊢
                unfold opStep
                rw [if_pos (by rfl)]
                go_simp
                exact hK.out _ _ (Below.refl _ _) rfl _ rfl
              case c3_34 =>
                intro wq hbw st  K hK
                have KQ := HB.out.trans (hbw.mono HB.out.size)
                simp only [Act.put, List.setIfInBounds_toArray, List.set_cons_zero, List.set_cons_succ] at hK ⊢
                unfold opStep
                rw [if_pos (by rfl)]
                have dd := Lib.hid (HC2.out wq KQ)
                have d0 := dd.out.2.2
                go_simp
                exact hK.out _ _ (Below.refl _ _) rfl _ rfl
              case c3_35 =>
                intro wq hbw st  K hK
                have KQ := HB.out.trans (hbw.mono HB.out.size)
                simp only [Act.put, List.setIfInBounds_toArray, List.set_cons_zero, List.set_cons_succ] at hK ⊢
                unfold opStep
                rw [if_pos (by rfl)]
                go_simp
                have hpc := same_bytes _ _ x.tag y.tag wq (HR2.out.1.on KQ) (HR2.out.2.on KQ)
                rw [HN2.out] at hpc
                refine hpc.mono ?_
                rintro e wz ⟨rfl, hbz⟩
                go_simp
                exact hK.out _ _ hbz rfl _ rfl
              case c3_36 =>
                intro wq hbw st  K hK
                have KQ := HB.out.trans (hbw.mono HB.out.size)
                simp only [Act.put, List.setIfInBounds_toArray, List.set_cons_zero, List.set_cons_succ] at hK ⊢
                unfold opStep
                rw [if_pos (by rfl)]
                go_simp
                exact hK.out _ _ (Below.refl _ _) rfl _ rfl
              case c3_37 =>
                intro wq hbw st  K hK
                have KQ := HB.out.trans (hbw.mono HB.out.size)
                simp only [Act.put, List.setIfInBounds_toArray, List.set_cons_zero, List.set_cons_succ] at hK ⊢
                unfold opStep
                rw [if_pos (by rfl)]
                go_simp
                exact hK.out _ _ (Below.refl _ _) rfl _ rfl
              case c3_fin =>
                intro wq hbw
                try simp only [FinAll]
                simp only [Act.put, List.setIfInBounds_toArray, List.set_cons_zero, List.set_cons_succ]
                have KQ := Lib.hid (HB.out.trans (hbw.mono HB.out.size))
                clear hbw
                go_wp2
                go_roundg (a.length - (k + 1))
                case measure => have := HM.out; have := HLT.out.1; omega
                case rel => exact ⟨k + 1, by have := HLT.out.1; omega, by go_num, HXY.out, KQ.out⟩
            · have HN2 : Hid (eqb x.tag y.tag = false) := Lib.hid (eqb_neg n2)
              obtain rfl : res = false := HNK.out fun e => n2 (by rw [e])
              clear HNK HGK HNO HYES n0 n1 n2
              go_wp2_with fail
              refine region_left [.is (.slice (some ⟨b1, o1, none⟩) a.length k1), .is (.int .i64 (k : Int)), .is (.pointer (some ⟨b1, o1 + k * 3, none⟩)), .is (.pointer (some ⟨b1, o1 + k * 3, none⟩)), .is (.int .i64 x.c), .is (.slice (some ⟨b2, o2, none⟩) b.length k2), .is (.int .i64 (k : Int)), .is (.pointer (some ⟨b2, o2 + k * 3, none⟩)), .is (.pointer (some ⟨b2, o2 + k * 3, none⟩)), .is (.int .i64 y.c), .is (.bool false), .is (.bool false), .is (.slice (some ⟨b1, o1, none⟩) a.length k1), .is (.int .i64 (k : Int)), .is (.pointer (some ⟨b1, o1 + k * 3, none⟩)), .is (.pointer (some ⟨b1, o1 + k * 3 + 1, none⟩)), .is (.int .i64 x.n), .is (.slice (some ⟨b2, o2, none⟩) b.length k2), .is (.int .i64 (k : Int)), .is (.pointer (some ⟨b2, o2 + k * 3, none⟩)), .is (.pointer (some ⟨b2, o2 + k * 3 + 1, none⟩)), .is (.int .i64 y.n), .is (.bool false), .is (.bool false), .is (.bool false), .is (.slice (some ⟨b1, o1, none⟩) a.length k1), .is (.int .i64 (k : Int)), .is (.pointer (some ⟨b1, o1 + k * 3, none⟩)), .is (.pointer (some ⟨b1, o1 + k * 3 + 2, none⟩)), .is (.slice s12 x.tag.length t12), .is (.slice (some ⟨b2, o2, none⟩) b.length k2), .is (.int .i64 (k : Int)), .is (.pointer (some ⟨b2, o2 + k * 3, none⟩)), .is (.pointer (some ⟨b2, o2 + k * 3 + 2, none⟩)), .is (.slice s22 y.tag.length t22), .is (.bool false), .is (.bool true), .is (.bool true)] (by kernel_rfl) rfl (by kernel_rfl) (by kernel_rfl) (.cons ?c2_0 (.cons ?c2_1 (.cons ?c2_2 (.cons ?c2_3 (.cons ?c2_4 (.cons ?c2_5 (.cons ?c2_6 (.cons ?c2_7 (.cons ?c2_8 (.cons ?c2_9 (.cons ?c2_10 (.cons ?c2_11 (.cons ?c2_12 (.cons ?c2_13 (.cons ?c2_14 (.cons ?c2_15 (.cons ?c2_16 (.cons ?c2_17 (.cons ?c2_18 (.cons ?c2_19 (.cons ?c2_20 (.cons ?c2_21 (.cons ?c2_22 (.cons ?c2_23 (.cons ?c2_24 (.cons ?c2_25 (.cons ?c2_26 (.cons ?c2_27 (.cons ?c2_28 (.cons ?c2_29 (.cons ?c2_30 (.cons ?c2_31 (.cons ?c2_32 (.cons ?c2_33 (.cons ?c2_34 (.cons ?c2_35 (.cons ?c2_36 (.cons ?c2_37 .nil)))))))))))))))))))))))))))))))))))))) ?c2_fin
              case c2_0 =>
                intro wq hbw st  K hK
                have KQ := HB.out.trans (hbw.mono HB.out.size)
                simp only [Act.put, List.setIfInBounds_toArray, List.set_cons_zero, List.set_cons_succ] at hK ⊢
                unfold opStep
                rw [if_pos (by rfl)]
                go_simp
                exact hK.out _ _ (Below.refl _ _) rfl _ rfl
              case c2_1 =>
                intro wq hbw st  K hK
                have KQ := HB.out.trans (hbw.mono HB.out.size)
                simp only [Act.put, List.setIfInBounds_toArray, List.set_cons_zero, List.set_cons_succ] at hK ⊢
                unfold opStep
                rw [if_pos (by rfl)]
                go_simp
                exact hK.out _ _ (Below.refl _ _) rfl _ rfl
              case c2_2 =>
                intro wq hbw st  K hK
                have KQ := HB.out.trans (hbw.mono HB.out.size)
                simp only [Act.put, List.setIfInBounds_toArray, List.set_cons_zero, List.set_cons_succ] at hK ⊢
                unfold opStep
                rw [if_pos (by rfl)]
                go_simp
                exact hK.out _ _ (Below.refl _ _) rfl _ rfl
              case c2_3 =>
                intro wq hbw st  K hK
                have KQ := HB.out.trans (hbw.mono HB.out.size)
                simp only [Act.put, List.setIfInBounds_toArray, List.set_cons_zero, List.set_cons_succ] at hK ⊢
                unfold opStep
                rw [if_pos (by rfl)]
                go_simp
                exact hK.out _ _ (Below.refl _ _) rfl _ rfl
              case c2_4 =>
                intro wq hbw st  K hK
                have KQ := HB.out.trans (hbw.mono HB.out.size)
                simp only [Act.put, List.setIfInBounds_toArray, List.set_cons_zero, List.set_cons_succ] at hK ⊢
                unfold opStep
                rw [if_pos (by rfl)]
                have dd := Lib.hid (HC1.out wq KQ)
                have d0 := dd.out.1
                go_simp
                exact hK.out _ _ (Below.refl _ _) rfl _ rfl
              case c2_5 =>
                intro wq hbw st  K hK
                have KQ := HB.out.trans (hbw.mono HB.out.size)
                simp only [Act.put, List.setIfInBounds_toArray, List.set_cons_zero, List.set_cons_succ] at hK ⊢
                unfold opStep
                rw [if_pos (by rfl)]
                go_simp
                exact hK.out _ _ (Below.refl _ _) rfl _ rfl
              case c2_6 =>
                intro wq hbw st  K hK
                have KQ := HB.out.trans (hbw.mono HB.out.size)
                simp only [Act.put, List.setIfInBounds_toArray, List.set_cons_zero, List.set_cons_succ] at hK ⊢
                unfold opStep
                rw [if_pos (by rfl)]
                go_simp
                exact hK.out _ _ (Below.refl _ _) rfl _ rfl
              case c2_7 =>
                intro wq hbw st  K hK
                have KQ := HB.out.trans (hbw.mono HB.out.size)
                simp only [Act.put, List.setIfInBounds_toArray, List.set_cons_zero, List.set_cons_succ] at hK ⊢
                unfold opStep
                rw [if_pos (by rfl)]
                go_simp
                exact hK.out _ _ (Below.refl _ _) rfl _ rfl
              case c2_8 =>
                intro wq hbw st  K hK
                have KQ := HB.out.trans (hbw.mono HB.out.size)
                simp only [Act.put, List.setIfInBounds_toArray, List.set_cons_zero, List.set_cons_succ] at hK ⊢
                unfold opStep
                rw [if_pos (by rfl)]
                go_simp
                exact hK.out _ _ (Below.refl _ _) rfl _ rfl
              case c2_9 =>
                intro wq hbw st  K hK
                have KQ := HB.out.trans (hbw.mono HB.out.size)
                simp only [Act.put, List.setIfInBounds_toArray, List.set_cons_zero, List.set_cons_succ] at hK ⊢
                unfold opStep
                rw [if_pos (by rfl)]
                have dd := Lib.hid (HC2.out wq KQ)
                have d0 := dd.out.1
                go_simp
                exact hK.out _ _ (Below.refl _ _) rfl _ rfl
              case c2_10 =>
                intro wq hbw st  K hK
                have KQ := HB.out.trans (hbw.mono HB.out.size)
                simp only [Act.put, List.setIfInBounds_toArray, List.set_cons_zero, List.set_cons_succ] at hK ⊢
                unfold opStep
                rw [if_pos (by rfl)]
                have nn := HN0.out
                go_simp
                exact hK.out _ _ (Below.refl _ _) rfl _ rfl
              case c2_11 =>
                intro wq hbw st  K hK
                have KQ := HB.out.trans (hbw.mono HB.out.size)
                simp only [Act.put, List.setIfInBounds_toArray, List.set_cons_zero, List.set_cons_succ] at hK ⊢
                unfold opStep
                rw [if_pos (by rfl)]
                go_simp
                exact hK.out _ _ (Below.refl _ _) rfl _ rfl
              case c2_12 =>
                intro wq hbw st  K hK
                have KQ := HB.out.trans (hbw.mono HB.out.size)
                simp only [Act.put, List.setIfInBounds_toArray, List.set_cons_zero, List.set_cons_succ] at hK ⊢
                unfold opStep
                rw [if_pos (by rfl)]
                go_simp
                exact hK.out _ _ (Below.refl _ _) rfl _ rfl
              case c2_13 =>
                intro wq hbw st  K hK
                have KQ := HB.out.trans (hbw.mono HB.out.size)
                simp only [Act.put, List.setIfInBounds_toArray, List.set_cons_zero, List.set_cons_succ] at hK ⊢
                unfold opStep
                rw [if_pos (by rfl)]
                go_simp
                exact hK.out _ _ (Below.refl _ _) rfl _ rfl
              case c2_14 =>
                intro wq hbw st  K hK
                have KQ := HB.out.trans (hbw.mono HB.out.size)
                simp only [Act.put, List.setIfInBounds_toArray, List.set_cons_zero, List.set_cons_succ] at hK ⊢
                unfold opStep
                rw [if_pos (by rfl)]
                go_simp
                exact hK.out _ _ (Below.refl _ _) rfl _ rfl
              case c2_15 =>
                intro wq hbw st  K hK
                have KQ := HB.out.trans (hbw.mono HB.out.size)
                simp only [Act.put, List.setIfInBounds_toArray, List.set_cons_zero, List.set_cons_succ] at hK ⊢
                unfold opStep
                rw [if_pos (by rfl)]
                go_simp
                exact hK.out _ _ (Below.refl _ _) rfl _ rfl
              case c2_16 =>
                intro wq hbw st  K hK
                have KQ := HB.out.trans (hbw.mono HB.out.size)
                simp only [Act.put, List.setIfInBounds_toArray, List.set_cons_zero, List.set_cons_succ] at hK ⊢
                unfold opStep
                rw [if_pos (by rfl)]
                have dd := Lib.hid (HC1.out wq KQ)
                have d0 := dd.out.2.1
                go_simp
                exact hK.out _ _ (Below.refl _ _) rfl _ rfl
              case c2_17 =>
                intro wq hbw st  K hK
                have KQ := HB.out.trans (hbw.mono HB.out.size)
                simp only [Act.put, List.setIfInBounds_toArray, List.set_cons_zero, List.set_cons_succ] at hK ⊢
                unfold opStep
                rw [if_pos (by rfl)]
                go_simp
                exact hK.out _ _ (Below.refl _ _) rfl _ rfl
              case c2_18 =>
                intro wq hbw st  K hK
                have KQ := HB.out.trans (hbw.mono HB.out.size)
                simp only [Act.put, List.setIfInBounds_toArray, List.set_cons_zero, List.set_cons_succ] at hK ⊢
                unfold opStep
                rw [if_pos (by rfl)]
                go_simp
                exact hK.out _ _ (Below.refl _ _) rfl _ rfl
              case c2_19 =>
                intro wq hbw st  K hK
                have KQ := HB.out.trans (hbw.mono HB.out.size)
                simp only [Act.put, List.setIfInBounds_toArray, List.set_cons_zero, List.set_cons_succ] at hK ⊢
                unfold opStep
                rw [if_pos (by rfl)]
                go_simp
                exact hK.out _ _ (Below.refl _ _) rfl _ rfl
              case c2_20 =>
                intro wq hbw st  K hK
                have KQ := HB.out.trans (hbw.mono HB.out.size)
                simp only [Act.put, List.setIfInBounds_toArray, List.set_cons_zero, List.set_cons_succ] at hK ⊢
                unfold opStep
                rw [if_pos (by rfl)]
                go_simp
                exact hK.out _ _ (Below.refl _ _) rfl _ rfl
              case c2_21 =>
                intro wq hbw st  K hK
                have KQ := HB.out.trans (hbw.mono HB.out.size)
                simp only [Act.put, List.setIfInBounds_toArray, List.set_cons_zero, List.set_cons_succ] at hK ⊢
                unfold opStep
                rw [if_pos (by rfl)]
                have dd := Lib.hid (HC2.out wq KQ)
                have d0 := dd.out.2.1
                go_simp
                exact hK.out _ _ (Below.refl _ _) rfl _ rfl
              case c2_22 =>
                intro wq hbw st  K hK
                have KQ := HB.out.trans (hbw.mono HB.out.size)
                simp only [Act.put, List.setIfInBounds_toArray, List.set_cons_zero, List.set_cons_succ] at hK ⊢
                unfold opStep
                rw [if_pos (by rfl)]
                have nn := HN1.out
                go_simp
                exact hK.out _ _ (Below.refl _ _) rfl _ rfl
              case c2_23 =>
                intro wq hbw st  K hK
                have KQ := HB.out.trans (hbw.mono HB.out.size)
                simp only [Act.put, List.setIfInBounds_toArray, List.set_cons_zero, List.set_cons_succ] at hK ⊢
                unfold opStep
                rw [if_pos (by rfl)]
                go_simp
                exact hK.out _ _ (Below.refl _ _) rfl _ rfl
              case c2_24 =>
                intro wq hbw st  K hK
                have KQ := HB.out.trans (hbw.mono HB.out.size)
                simp only [Act.put, List.setIfInBounds_toArray, List.set_cons_zero, List.set_cons_succ] at hK ⊢
                unfold opStep
                rw [if_pos (by rfl)]
                go_simp
                exact hK.out _ _ (Below.refl _ _) rfl _ rfl
              case c2_25 =>
                intro wq hbw st  K hK
                have KQ := HB.out.trans (hbw.mono HB.out.size)
                simp only [Act.put, List.setIfInBounds_toArray, List.set_cons_zero, List.set_cons_succ] at hK ⊢
                unfold opStep
                rw [if_pos (by rfl)]
                go_simp
                exact hK.out _ _ (Below.refl _ _) rfl _ rfl
              case c2_26 =>
                intro wq hbw st  K hK
                have KQ := HB.out.trans (hbw.mono HB.out.size)
                simp only [Act.put, List.setIfInBounds_toArray, List.set_cons_zero, List.set_cons_succ] at hK ⊢
                unfold opStep
                rw [if_pos (by rfl)]
                go_simp
                exact hK.out _ _ (Below.refl _ _) rfl _ rfl
              case c2_27 =>
                intro wq hbw st  K hK
                have KQ := HB.out.trans (hbw.mono HB.out.size)
                simp only [Act.put, List.setIfInBounds_toArray, List.set_cons_zero, List.set_cons_succ] at hK ⊢
                unfold opStep
                rw [if_pos (by rfl)]
                go_simp
                exact hK.out _ _ (Below.refl _ _) rfl _ rfl
              case c2_28 =>
                intro wq hbw st  K hK
                have KQ := HB.out.trans (hbw.mono HB.out.size)
                simp only [Act.put, List.setIfInBounds_toArray, List.set_cons_zero, List.set_cons_succ] at hK ⊢
                unfold opStep
                rw [if_pos (by rfl)]
                go_simp
                exact hK.out _ _ (Below.refl _ _) rfl _ rfl
              case c2_29 =>
                intro wq hbw st  K hK
                have KQ := HB.out.trans (hbw.mono HB.out.size)
                simp only [Act.put, List.setIfInBounds_toArray, List.set_cons_zero, List.set_cons_succ] at hK ⊢
                unfold opStep
                rw [if_pos (by rfl)]
                have dd := Lib.hid (HC1.out wq KQ)
                have d0 := dd.out.2.2
                go_simp
                exact hK.out _ _ (Below.refl _ _) rfl _ rfl
              case c2_30 =>
                intro wq hbw st  K hK
                have KQ := HB.out.trans (hbw.mono HB.out.size)
                simp only [Act.put, List.setIfInBounds_toArray, List.set_cons_zero, List.set_cons_succ] at hK ⊢
                unfold opStep
                rw [if_pos (by rfl)]
                go_simp
                exact hK.out _ _ (Below.refl _ _) rfl _ rfl
              case c2_31 =>
                intro wq hbw st  K hK
                have KQ := HB.out.trans (hbw.mono HB.out.size)
                simp only [Act.put, List.setIfInBounds_toArray, List.set_cons_zero, List.set_cons_succ] at hK ⊢
                unfold opStep
                rw [if_pos (by rfl)]
                go_simp
                exact hK.out _ _ (Below.refl _ _) rfl _ rfl
              case c2_32 =>
                intro wq hbw st  K hK
                have KQ := HB.out.trans (hbw.mono HB.out.size)
                simp only [Act.put, List.setIfInBounds_toArray, List.set_cons_zero, List.set_cons_succ] at hK ⊢
                unfold opStep
                rw [if_pos (by rfl)]
                go_simp
                exact hK.out _ _ (Below.refl _ _) rfl _ rfl
              case c2_33 =>
                intro wq hbw st  K hK
                have KQ := HB.out.trans (hbw.mono HB.out.size)
                simp only [Act.put, List.setIfInBounds_toArray, List.set_cons_zero, List.set_cons_succ] at hK ⊢
                unfold opStep
                rw [if_pos (by rfl)]
                go_simp
                exact hK.out _ _ (Below.refl _ _) rfl _ rfl
              case c2_34 =>
                intro wq hbw st  K hK
                have KQ := HB.out.trans (hbw.mono HB.out.size)
                simp only [Act.put, List.setIfInBounds_toArray, List.set_cons_zero, List.set_cons_succ] at hK ⊢
                unfold opStep
                rw [if_pos (by rfl)]
                have dd := Lib.hid (HC2.out wq KQ)
                have d0 := dd.out.2.2
                go_simp
                exact hK.out _ _ (Below.refl _ _) rfl _ rfl
              case c2_35 =>
                intro wq hbw st  K hK
                have KQ := HB.out.trans (hbw.mono HB.out.size)
                simp only [Act.put, List.setIfInBounds_toArray, List.set_cons_zero, List.set_cons_succ] at hK ⊢
                unfold opStep
                rw [if_pos (by rfl)]
                go_simp
                have hpc := same_bytes _ _ x.tag y.tag wq (HR2.out.1.on KQ) (HR2.out.2.on KQ)
                rw [HN2.out] at hpc
                refine hpc.mono ?_
                rintro e wz ⟨rfl, hbz⟩
                go_simp
                exact hK.out _ _ hbz rfl _ rfl
              case c2_36 =>
                intro wq hbw st  K hK
                have KQ := HB.out.trans (hbw.mono HB.out.size)
                simp only [Act.put, List.setIfInBounds_toArray, List.set_cons_zero, List.set_cons_succ] at hK ⊢
                unfold opStep
                rw [if_pos (by rfl)]
                go_simp
                exact hK.out _ _ (Below.refl _ _) rfl _ rfl
              case c2_37 =>
                intro wq hbw st  K hK
                have KQ := HB.out.trans (hbw.mono HB.out.size)
                simp only [Act.put, List.setIfInBounds_toArray, List.set_cons_zero, List.set_cons_succ] at hK ⊢
                unfold opStep
                rw [if_pos (by rfl)]
                go_simp
                exact hK.out _ _ (Below.refl _ _) rfl _ rfl
              case c2_fin =>
                intro wq hbw
                try simp only [FinAll]
                simp only [Act.put, List.setIfInBounds_toArray, List.set_cons_zero, List.set_cons_succ]
                have KQ := HB.out.trans (hbw.mono HB.out.size)
                go_wp2
                go_ret
                exact ⟨rfl, KQ⟩
          · have HN1 : Hid ((x.n != y.n) = true) := Lib.hid (by simpa using n1)
            obtain rfl : res = false := HNK.out fun e => n1 (by rw [e])
            clear HNK HGK HNO HYES n0 n1
            go_wp2_with fail
            refine region_left [.is (.slice (some ⟨b1, o1, none⟩) a.length k1), .is (.int .i64 (k : Int)), .is (.pointer (some ⟨b1, o1 + k * 3, none⟩)), .is (.pointer (some ⟨b1, o1 + k * 3, none⟩)), .is (.int .i64 x.c), .is (.slice (some ⟨b2, o2, none⟩) b.length k2), .is (.int .i64 (k : Int)), .is (.pointer (some ⟨b2, o2 + k * 3, none⟩)), .is (.pointer (some ⟨b2, o2 + k * 3, none⟩)), .is (.int .i64 y.c), .is (.bool false), .is (.bool false), .is (.slice (some ⟨b1, o1, none⟩) a.length k1), .is (.int .i64 (k : Int)), .is (.pointer (some ⟨b1, o1 + k * 3, none⟩)), .is (.pointer (some ⟨b1, o1 + k * 3 + 1, none⟩)), .is (.int .i64 x.n), .is (.slice (some ⟨b2, o2, none⟩) b.length k2), .is (.int .i64 (k : Int)), .is (.pointer (some ⟨b2, o2 + k * 3, none⟩)), .is (.pointer (some ⟨b2, o2 + k * 3 + 1, none⟩)), .is (.int .i64 y.n), .is (.bool true), .is (.bool true), .is (.bool true), .is undef, .is undef, .is undef, .is undef, .is undef, .is undef, .is undef, .is undef, .is undef, .is undef, .is undef, .is undef, .is (.bool true)] (by kernel_rfl) rfl (by kernel_rfl) (by kernel_rfl) (.cons ?c1_0 (.cons ?c1_1 (.cons ?c1_2 (.cons ?c1_3 (.cons ?c1_4 (.cons ?c1_5 (.cons ?c1_6 (.cons ?c1_7 (.cons ?c1_8 (.cons ?c1_9 (.cons ?c1_10 (.cons ?c1_11 (.cons ?c1_12 (.cons ?c1_13 (.cons ?c1_14 (.cons ?c1_15 (.cons ?c1_16 (.cons ?c1_17 (.cons ?c1_18 (.cons ?c1_19 (.cons ?c1_20 (.cons ?c1_21 (.cons ?c1_22 (.cons ?c1_23 (.cons ?c1_24 (.cons ?c1_25 (.cons ?c1_26 (.cons ?c1_27 (.cons ?c1_28 (.cons ?c1_29 (.cons ?c1_30 (.cons ?c1_31 (.cons ?c1_32 (.cons ?c1_33 (.cons ?c1_34 (.cons ?c1_35 (.cons ?c1_36 (.cons ?c1_37 .nil)))))))))))))))))))))))))))))))))))))) ?c1_fin
            case c1_0 =>
              intro wq hbw st  K hK
              have KQ := HB.out.trans (hbw.mono HB.out.size)
              simp only [Act.put, List.setIfInBounds_toArray, List.set_cons_zero, List.set_cons_succ] at hK ⊢
              unfold opStep
              rw [if_pos (by rfl)]
              go_simp
              exact hK.out _ _ (Below.refl _ _) rfl _ rfl
            case c1_1 =>
              intro wq hbw st  K hK
              have KQ := HB.out.trans (hbw.mono HB.out.size)
              simp only [Act.put, List.setIfInBounds_toArray, List.set_cons_zero, List.set_cons_succ] at hK ⊢
              unfold opStep
              rw [if_pos (by rfl)]
              go_simp
              exact hK.out _ _ (Below.refl _ _) rfl _ rfl
            case c1_2 =>
              intro wq hbw st  K hK
              have KQ := HB.out.trans (hbw.mono HB.out.size)
              simp only [Act.put, List.setIfInBounds_toArray, List.set_cons_zero, List.set_cons_succ] at hK ⊢
              unfold opStep
              rw [if_pos (by rfl)]
              go_simp
              exact hK.out _ _ (Below.refl _ _) rfl _ rfl
            case c1_3 =>
              intro wq hbw st  K hK
              have KQ := HB.out.trans (hbw.mono HB.out.size)
              simp only [Act.put, List.setIfInBounds_toArray, List.set_cons_zero, List.set_cons_succ] at hK ⊢
              unfold opStep
              rw [if_pos (by rfl)]
              go_simp
              exact hK.out _ _ (Below.refl _ _) rfl _ rfl
            case c1_4 =>
              intro wq hbw st  K hK
              have KQ := HB.out.trans (hbw.mono HB.out.size)
              simp only [Act.put, List.setIfInBounds_toArray, List.set_cons_zero, List.set_cons_succ] at hK ⊢
              unfold opStep
              rw [if_pos (by rfl)]
              have dd := Lib.hid (HC1.out wq KQ)
              have d0 := dd.out.1
              go_simp
              exact hK.out _ _ (Below.refl _ _) rfl _ rfl
            case c1_5 =>
              intro wq hbw st  K hK
              have KQ := HB.out.trans (hbw.mono HB.out.size)
              simp only [Act.put, List.setIfInBounds_toArray, List.set_cons_zero, List.set_cons_succ] at hK ⊢
              unfold opStep
              rw [if_pos (by rfl)]
              go_simp
              exact hK.out _ _ (Below.refl _ _) rfl _ rfl
            case c1_6 =>
              intro wq hbw st  K hK
              have KQ := HB.out.trans (hbw.mono HB.out.size)
              simp only [Act.put, List.setIfInBounds_toArray, List.set_cons_zero, List.set_cons_succ] at hK ⊢
              unfold opStep
              rw [if_pos (by rfl)]
              go_simp
              exact hK.out _ _ (Below.refl _ _) rfl _ rfl
            case c1_7 =>
              intro wq hbw st  K hK
              have KQ := HB.out.trans (hbw.mono HB.out.size)
              simp only [Act.put, List.setIfInBounds_toArray, List.set_cons_zero, List.set_cons_succ] at hK ⊢
              unfold opStep
              rw [if_pos (by rfl)]
              go_simp
              exact hK.out _ _ (Below.refl _ _) rfl _ rfl
            case c1_8 =>
              intro wq hbw st  K hK
              have KQ := HB.out.trans (hbw.mono HB.out.size)
              simp only [Act.put, List.setIfInBounds_toArray, List.set_cons_zero, List.set_cons_succ] at hK ⊢
              unfold opStep
              rw [if_pos (by rfl)]
              go_simp
              exact hK.out _ _ (Below.refl _ _) rfl _ rfl
            case c1_9 =>
              intro wq hbw st  K hK
              have KQ := HB.out.trans (hbw.mono HB.out.size)
              simp only [Act.put, List.setIfInBounds_toArray, List.set_cons_zero, List.set_cons_succ] at hK ⊢
              unfold opStep
              rw [if_pos (by rfl)]
              have dd := Lib.hid (HC2.out wq KQ)
              have d0 := dd.out.1
              go_simp
              exact hK.out _ _ (Below.refl _ _) rfl _ rfl
            case c1_10 =>
              intro wq hbw st  K hK
              have KQ := HB.out.trans (hbw.mono HB.out.size)
              simp only [Act.put, List.setIfInBounds_toArray, List.set_cons_zero, List.set_cons_succ] at hK ⊢
              unfold opStep
              rw [if_pos (by rfl)]
              have nn := HN0.out
              go_simp
              exact hK.out _ _ (Below.refl _ _) rfl _ rfl
            case c1_11 =>
              intro wq hbw st  K hK
              have KQ := HB.out.trans (hbw.mono HB.out.size)
              simp only [Act.put, List.setIfInBounds_toArray, List.set_cons_zero, List.set_cons_succ] at hK ⊢
              unfold opStep
              rw [if_pos (by rfl)]
              go_simp
              exact hK.out _ _ (Below.refl _ _) rfl _ rfl
            case c1_12 =>
              intro wq hbw st  K hK
              have KQ := HB.out.trans (hbw.mono HB.out.size)
              simp only [Act.put, List.setIfInBounds_toArray, List.set_cons_zero, List.set_cons_succ] at hK ⊢
              unfold opStep
              rw [if_pos (by rfl)]
              go_simp
              exact hK.out _ _ (Below.refl _ _) rfl _ rfl
            case c1_13 =>
              intro wq hbw st  K hK
              have KQ := HB.out.trans (hbw.mono HB.out.size)
              simp only [Act.put, List.setIfInBounds_toArray, List.set_cons_zero, List.set_cons_succ] at hK ⊢
              unfold opStep
              rw [if_pos (by rfl)]
              go_simp
              exact hK.out _ _ (Below.refl _ _) rfl _ rfl
            case c1_14 =>
              intro wq hbw st  K hK
              have KQ := HB.out.trans (hbw.mono HB.out.size)
              simp only [Act.put, List.setIfInBounds_toArray, List.set_cons_zero, List.set_cons_succ] at hK ⊢
              unfold opStep
              rw [if_pos (by rfl)]
              go_simp
              exact hK.out _ _ (Below.refl _ _) rfl _ rfl
            case c1_15 =>
              intro wq hbw st  K hK
              have KQ := HB.out.trans (hbw.mono HB.out.size)
              simp only [Act.put, List.setIfInBounds_toArray, List.set_cons_zero, List.set_cons_succ] at hK ⊢
              unfold opStep
              rw [if_pos (by rfl)]
              go_simp
              exact hK.out _ _ (Below.refl _ _) rfl _ rfl
            case c1_16 =>
              intro wq hbw st  K hK
              have KQ := HB.out.trans (hbw.mono HB.out.size)
              simp only [Act.put, List.setIfInBounds_toArray, List.set_cons_zero, List.set_cons_succ] at hK ⊢
              unfold opStep
              rw [if_pos (by rfl)]
              have dd := Lib.hid (HC1.out wq KQ)
              have d0 := dd.out.2.1
              go_simp
              exact hK.out _ _ (Below.refl _ _) rfl _ rfl
            case c1_17 =>
              intro wq hbw st  K hK
              have KQ := HB.out.trans (hbw.mono HB.out.size)
              simp only [Act.put, List.setIfInBounds_toArray, List.set_cons_zero, List.set_cons_succ] at hK ⊢
              unfold opStep
              rw [if_pos (by rfl)]
              go_simp
              exact hK.out _ _ (Below.refl _ _) rfl _ rfl
            case c1_18 =>
              intro wq hbw st  K hK
              have KQ := HB.out.trans (hbw.mono HB.out.size)
              simp only [Act.put, List.setIfInBounds_toArray, List.set_cons_zero, List.set_cons_succ] at hK ⊢
              unfold opStep
              rw [if_pos (by rfl)]
              go_simp
              exact hK.out _ _ (Below.refl _ _) rfl _ rfl
            case c1_19 =>
              intro wq hbw st  K hK
              have KQ := HB.out.trans (hbw.mono HB.out.size)
              simp only [Act.put, List.setIfInBounds_toArray, List.set_cons_zero, List.set_cons_succ] at hK ⊢
              unfold opStep
              rw [if_pos (by rfl)]
              go_simp
              exact hK.out _ _ (Below.refl _ _) rfl _ rfl
            case c1_20 =>
              intro wq hbw st  K hK
              have KQ := HB.out.trans (hbw.mono HB.out.size)
              simp only [Act.put, List.setIfInBounds_toArray, List.set_cons_zero, List.set_cons_succ] at hK ⊢
              unfold opStep
              rw [if_pos (by rfl)]
              go_simp
              exact hK.out _ _ (Below.refl _ _) rfl _ rfl
            case c1_21 =>
              intro wq hbw st  K hK
              have KQ := HB.out.trans (hbw.mono HB.out.size)
              simp only [Act.put, List.setIfInBounds_toArray, List.set_cons_zero, List.set_cons_succ] at hK ⊢
              unfold opStep
              rw [if_pos (by rfl)]
              have dd := Lib.hid (HC2.out wq KQ)
              have d0 := dd.out.2.1
              go_simp
              exact hK.out _ _ (Below.refl _ _) rfl _ rfl
            case c1_22 =>
              intro wq hbw st  K hK
              have KQ := HB.out.trans (hbw.mono HB.out.size)
              simp only [Act.put, List.setIfInBounds_toArray, List.set_cons_zero, List.set_cons_succ] at hK ⊢
              unfold opStep
              rw [if_pos (by rfl)]
              have nn := HN1.out
              go_simp
              exact hK.out _ _ (Below.refl _ _) rfl _ rfl
            case c1_23 =>
              intro wq hbw st  K hK
              have KQ := HB.out.trans (hbw.mono HB.out.size)
              simp only [Act.put, List.setIfInBounds_toArray, List.set_cons_zero, List.set_cons_succ] at hK ⊢
              unfold opStep
              rw [if_pos (by rfl)]
              go_simp
              exact hK.out _ _ (Below.refl _ _) rfl _ rfl
            case c1_24 =>
              intro wq hbw st  K hK
              have KQ := HB.out.trans (hbw.mono HB.out.size)
              simp only [Act.put, List.setIfInBounds_toArray, List.set_cons_zero, List.set_cons_succ] at hK ⊢
              unfold opStep
              rw [if_pos (by rfl)]
              go_simp
              exact hK.out _ _ (Below.refl _ _) rfl _ rfl
            case c1_25 =>
              intro wq hbw st  K hK
              have KQ := HB.out.trans (hbw.mono HB.out.size)
              simp only [Act.put, List.setIfInBounds_toArray, List.set_cons_zero, List.set_cons_succ] at hK ⊢
              unfold opStep
              rw [if_neg (by change ¬ (false = true); exact Bool.false_ne_true)]
              exact hK.out _ _ (Below.refl _ _) rfl _ rfl
            case c1_26 =>
              intro wq hbw st  K hK
              have KQ := HB.out.trans (hbw.mono HB.out.size)
              simp only [Act.put, List.setIfInBounds_toArray, List.set_cons_zero, List.set_cons_succ] at hK ⊢
              unfold opStep
              rw [if_neg (by change ¬ (false = true); exact Bool.false_ne_true)]
              exact hK.out _ _ (Below.refl _ _) rfl _ rfl
            case c1_27 =>
              intro wq hbw st  K hK
              have KQ := HB.out.trans (hbw.mono HB.out.size)
              simp only [Act.put, List.setIfInBounds_toArray, List.set_cons_zero, List.set_cons_succ] at hK ⊢
              unfold opStep
              rw [if_neg (by change ¬ (false = true); exact Bool.false_ne_true)]
              exact hK.out _ _ (Below.refl _ _) rfl _ rfl
            case c1_28 =>
              intro wq hbw st  K hK
              have KQ := HB.out.trans (hbw.mono HB.out.size)
              simp only [Act.put, List.setIfInBounds_toArray, List.set_cons_zero, List.set_cons_succ] at hK ⊢
              unfold opStep
              rw [if_neg (by change ¬ (false = true); exact Bool.false_ne_true)]
              exact hK.out _ _ (Below.refl _ _) rfl _ rfl
            case c1_29 =>
              intro wq hbw st  K hK
              have KQ := HB.out.trans (hbw.mono HB.out.size)
              simp only [Act.put, List.setIfInBounds_toArray, List.set_cons_zero, List.set_cons_succ] at hK ⊢
              unfold opStep
              rw [if_neg (by change ¬ (false = true); exact Bool.false_ne_true)]
              exact hK.out _ _ (Below.refl _ _) rfl _ rfl
            case c1_30 =>
              intro wq hbw st  K hK
              have KQ := HB.out.trans (hbw.mono HB.out.size)
              simp only [Act.put, List.setIfInBounds_toArray, List.set_cons_zero, List.set_cons_succ] at hK ⊢
              unfold opStep
              rw [if_neg (by change ¬ (false = true); exact Bool.false_ne_true)]
              exact hK.out _ _ (Below.refl _ _) rfl _ rfl
            case c1_31 =>
              intro wq hbw st  K hK
              have KQ := HB.out.trans (hbw.mono HB.out.size)
              simp only [Act.put, List.setIfInBounds_toArray, List.set_cons_zero, List.set_cons_succ] at hK ⊢
              unfold opStep
              rw [if_neg (by change ¬ (false = true); exact Bool.false_ne_true)]
              exact hK.out _ _ (Below.refl _ _) rfl _ rfl
            case c1_32 =>
              intro wq hbw st  K hK
              have KQ := HB.out.trans (hbw.mono HB.out.size)
              simp only [Act.put, List.setIfInBounds_toArray, List.set_cons_zero, List.set_cons_succ] at hK ⊢
              unfold opStep
              rw [if_neg (by change ¬ (false = true); exact Bool.false_ne_true)]
              exact hK.out _ _ (Below.refl _ _) rfl _ rfl
            case c1_33 =>
              intro wq hbw st  K hK
              have KQ := HB.out.trans (hbw.mono HB.out.size)
              simp only [Act.put, List.setIfInBounds_toArray, List.set_cons_zero, List.set_cons_succ] at hK ⊢
              unfold opStep
              rw [if_neg (by change ¬ (false = true); exact Bool.false_ne_true)]
              exact hK.out _ _ (Below.refl _ _) rfl _ rfl
            case c1_34 =>
              intro wq hbw st  K hK
              have KQ := HB.out.trans (hbw.mono HB.out.size)
              simp only [Act.put, List.setIfInBounds_toArray, List.set_cons_zero, List.set_cons_succ] at hK ⊢
              unfold opStep
              rw [if_neg (by change ¬ (false = true); exact Bool.false_ne_true)]
              exact hK.out _ _ (Below.refl _ _) rfl _ rfl
            case c1_35 =>
              intro wq hbw st  K hK
              have KQ := HB.out.trans (hbw.mono HB.out.size)
              simp only [Act.put, List.setIfInBounds_toArray, List.set_cons_zero, List.set_cons_succ] at hK ⊢
              unfold opStep
              rw [if_neg (by change ¬ (false = true); exact Bool.false_ne_true)]
              exact hK.out _ _ (Below.refl _ _) rfl _ rfl
            case c1_36 =>
              intro wq hbw st  K hK
              have KQ := HB.out.trans (hbw.mono HB.out.size)
              simp only [Act.put, List.setIfInBounds_toArray, List.set_cons_zero, List.set_cons_succ] at hK ⊢
              unfold opStep
              rw [if_neg (by change ¬ (false = true); exact Bool.false_ne_true)]
              exact hK.out _ _ (Below.refl _ _) rfl _ rfl
            case c1_37 =>
              intro wq hbw st  K hK
              have KQ := HB.out.trans (hbw.mono HB.out.size)
              simp only [Act.put, List.setIfInBounds_toArray, List.set_cons_zero, List.set_cons_succ] at hK ⊢
              unfold opStep
              rw [if_pos (by rfl)]
              go_simp
              exact hK.out _ _ (Below.refl _ _) rfl _ rfl
            case c1_fin =>
              intro wq hbw
              try simp only [FinAll]
              simp only [Act.put, List.setIfInBounds_toArray, List.set_cons_zero, List.set_cons_succ]
              have KQ := HB.out.trans (hbw.mono HB.out.size)
              go_wp2
              go_ret
              exact ⟨rfl, KQ⟩
        · have HN0 : Hid ((x.c != y.c) = true) := Lib.hid (by simpa using n0)
          obtain rfl : res = false := HNK.out fun e => n0 (by rw [e])
          clear HNK HGK HNO HYES n0
          go_wp2_with fail
          refine region_left [.is (.slice (some ⟨b1, o1, none⟩) a.length k1), .is (.int .i64 (k : Int)), .is (.pointer (some ⟨b1, o1 + k * 3, none⟩)), .is (.pointer (some ⟨b1, o1 + k * 3, none⟩)), .is (.int .i64 x.c), .is (.slice (some ⟨b2, o2, none⟩) b.length k2), .is (.int .i64 (k : Int)), .is (.pointer (some ⟨b2, o2 + k * 3, none⟩)), .is (.pointer (some ⟨b2, o2 + k * 3, none⟩)), .is (.int .i64 y.c), .is (.bool true), .is (.bool true), .is undef, .is undef, .is undef, .is undef, .is undef, .is undef, .is undef, .is undef, .is undef, .is undef, .is undef, .is (.bool true), .is (.bool true), .is undef, .is undef, .is undef, .is undef, .is undef, .is undef, .is undef, .is undef, .is undef, .is undef, .is undef, .is undef, .is (.bool true)] (by kernel_rfl) rfl (by kernel_rfl) (by kernel_rfl) (.cons ?c0_0 (.cons ?c0_1 (.cons ?c0_2 (.cons ?c0_3 (.cons ?c0_4 (.cons ?c0_5 (.cons ?c0_6 (.cons ?c0_7 (.cons ?c0_8 (.cons ?c0_9 (.cons ?c0_10 (.cons ?c0_11 (.cons ?c0_12 (.cons ?c0_13 (.cons ?c0_14 (.cons ?c0_15 (.cons ?c0_16 (.cons ?c0_17 (.cons ?c0_18 (.cons ?c0_19 (.cons ?c0_20 (.cons ?c0_21 (.cons ?c0_22 (.cons ?c0_23 (.cons ?c0_24 (.cons ?c0_25 (.cons ?c0_26 (.cons ?c0_27 (.cons ?c0_28 (.cons ?c0_29 (.cons ?c0_30 (.cons ?c0_31 (.cons ?c0_32 (.cons ?c0_33 (.cons ?c0_34 (.cons ?c0_35 (.cons ?c0_36 (.cons ?c0_37 .nil)))))))))))))))))))))))))))))))))))))) ?c0_fin
          case c0_0 =>
            intro wq hbw st  K hK
            have KQ := HB.out.trans (hbw.mono HB.out.size)
            simp only [Act.put, List.setIfInBounds_toArray, List.set_cons_zero, List.set_cons_succ] at hK ⊢
            unfold opStep
            rw [if_pos (by rfl)]
            go_simp
            exact hK.out _ _ (Below.refl _ _) rfl _ rfl
          case c0_1 =>
            intro wq hbw st  K hK
            have KQ := HB.out.trans (hbw.mono HB.out.size)
            simp only [Act.put, List.setIfInBounds_toArray, List.set_cons_zero, List.set_cons_succ] at hK ⊢
            unfold opStep
            rw [if_pos (by rfl)]
            go_simp
            exact hK.out _ _ (Below.refl _ _) rfl _ rfl
          case c0_2 =>
            intro wq hbw st  K hK
            have KQ := HB.out.trans (hbw.mono HB.out.size)
            simp only [Act.put, List.setIfInBounds_toArray, List.set_cons_zero, List.set_cons_succ] at hK ⊢
            unfold opStep
            rw [if_pos (by rfl)]
            go_simp
            exact hK.out _ _ (Below.refl _ _) rfl _ rfl
          case c0_3 =>
            intro wq hbw st  K hK
            have KQ := HB.out.trans (hbw.mono HB.out.size)
            simp only [Act.put, List.setIfInBounds_toArray, List.set_cons_zero, List.set_cons_succ] at hK ⊢
            unfold opStep
            rw [if_pos (by rfl)]
            go_simp
            exact hK.out _ _ (Below.refl _ _) rfl _ rfl
          case c0_4 =>
            intro wq hbw st  K hK
            have KQ := HB.out.trans (hbw.mono HB.out.size)
            simp only [Act.put, List.setIfInBounds_toArray, List.set_cons_zero, List.set_cons_succ] at hK ⊢
            unfold opStep
            rw [if_pos (by rfl)]
            have dd := Lib.hid (HC1.out wq KQ)
            have d0 := dd.out.1
            go_simp
            exact hK.out _ _ (Below.refl _ _) rfl _ rfl
          case c0_5 =>
            intro wq hbw st  K hK
            have KQ := HB.out.trans (hbw.mono HB.out.size)
            simp only [Act.put, List.setIfInBounds_toArray, List.set_cons_zero, List.set_cons_succ] at hK ⊢
            unfold opStep
            rw [if_pos (by rfl)]
            go_simp
            exact hK.out _ _ (Below.refl _ _) rfl _ rfl
          case c0_6 =>
            intro wq hbw st  K hK
            have KQ := HB.out.trans (hbw.mono HB.out.size)
            simp only [Act.put, List.setIfInBounds_toArray, List.set_cons_zero, List.set_cons_succ] at hK ⊢
            unfold opStep
            rw [if_pos (by rfl)]
            go_simp
            exact hK.out _ _ (Below.refl _ _) rfl _ rfl
          case c0_7 =>
            intro wq hbw st  K hK
            have KQ := HB.out.trans (hbw.mono HB.out.size)
            simp only [Act.put, List.setIfInBounds_toArray, List.set_cons_zero, List.set_cons_succ] at hK ⊢
            unfold opStep
            rw [if_pos (by rfl)]
            go_simp
            exact hK.out _ _ (Below.refl _ _) rfl _ rfl
          case c0_8 =>
            intro wq hbw st  K hK
            have KQ := HB.out.trans (hbw.mono HB.out.size)
            simp only [Act.put, List.setIfInBounds_toArray, List.set_cons_zero, List.set_cons_succ] at hK ⊢
            unfold opStep
            rw [if_pos (by rfl)]
            go_simp
            exact hK.out _ _ (Below.refl _ _) rfl _ rfl
          case c0_9 =>
            intro wq hbw st  K hK
            have KQ := HB.out.trans (hbw.mono HB.out.size)
            simp only [Act.put, List.setIfInBounds_toArray, List.set_cons_zero, List.set_cons_succ] at hK ⊢
            unfold opStep
            rw [if_pos (by rfl)]
            have dd := Lib.hid (HC2.out wq KQ)
            have d0 := dd.out.1
            go_simp
            exact hK.out _ _ (Below.refl _ _) rfl _ rfl
          case c0_10 =>
            intro wq hbw st  K hK
            have KQ := HB.out.trans (hbw.mono HB.out.size)
            simp only [Act.put, List.setIfInBounds_toArray, List.set_cons_zero, List.set_cons_succ] at hK ⊢
            unfold opStep
            rw [if_pos (by rfl)]
            have nn := HN0.out
            go_simp
            exact hK.out _ _ (Below.refl _ _) rfl _ rfl
          case c0_11 =>
            intro wq hbw st  K hK
            have KQ := HB.out.trans (hbw.mono HB.out.size)
            simp only [Act.put, List.setIfInBounds_toArray, List.set_cons_zero, List.set_cons_succ] at hK ⊢
            unfold opStep
            rw [if_pos (by rfl)]
            go_simp
            exact hK.out _ _ (Below.refl _ _) rfl _ rfl
          case c0_12 =>
            intro wq hbw st  K hK
            have KQ := HB.out.trans (hbw.mono HB.out.size)
            simp only [Act.put, List.setIfInBounds_toArray, List.set_cons_zero, List.set_cons_succ] at hK ⊢
            unfold opStep
            rw [if_neg (by change ¬ (false = true); exact Bool.false_ne_true)]
            exact hK.out _ _ (Below.refl _ _) rfl _ rfl
          case c0_13 =>
            intro wq hbw st  K hK
            have KQ := HB.out.trans (hbw.mono HB.out.size)
            simp only [Act.put, List.setIfInBounds_toArray, List.set_cons_zero, List.set_cons_succ] at hK ⊢
            unfold opStep
            rw [if_neg (by change ¬ (false = true); exact Bool.false_ne_true)]
            exact hK.out _ _ (Below.refl _ _) rfl _ rfl
          case c0_14 =>
            intro wq hbw st  K hK
            have KQ := HB.out.trans (hbw.mono HB.out.size)
            simp only [Act.put, List.setIfInBounds_toArray, List.set_cons_zero, List.set_cons_succ] at hK ⊢
            unfold opStep
            rw [if_neg (by change ¬ (false = true); exact Bool.false_ne_true)]
            exact hK.out _ _ (Below.refl _ _) rfl _ rfl
          case c0_15 =>
            intro wq hbw st  K hK
            have KQ := HB.out.trans (hbw.mono HB.out.size)
            simp only [Act.put, List.setIfInBounds_toArray, List.set_cons_zero, List.set_cons_succ] at hK ⊢
            unfold opStep
            rw [if_neg (by change ¬ (false = true); exact Bool.false_ne_true)]
            exact hK.out _ _ (Below.refl _ _) rfl _ rfl
          case c0_16 =>
            intro wq hbw st  K hK
            have KQ := HB.out.trans (hbw.mono HB.out.size)
            simp only [Act.put, List.setIfInBounds_toArray, List.set_cons_zero, List.set_cons_succ] at hK ⊢
            unfold opStep
            rw [if_neg (by change ¬ (false = true); exact Bool.false_ne_true)]
            exact hK.out _ _ (Below.refl _ _) rfl _ rfl
          case c0_17 =>
            intro wq hbw st  K hK
            have KQ := HB.out.trans (hbw.mono HB.out.size)
            simp only [Act.put, List.setIfInBounds_toArray, List.set_cons_zero, List.set_cons_succ] at hK ⊢
            unfold opStep
            rw [if_neg (by change ¬ (false = true); exact Bool.false_ne_true)]
            exact hK.out _ _ (Below.refl _ _) rfl _ rfl
          case c0_18 =>
            intro wq hbw st  K hK
            have KQ := HB.out.trans (hbw.mono HB.out.size)
            simp only [Act.put, List.setIfInBounds_toArray, List.set_cons_zero, List.set_cons_succ] at hK ⊢
            unfold opStep
            rw [if_neg (by change ¬ (false = true); exact Bool.false_ne_true)]
            exact hK.out _ _ (Below.refl _ _) rfl _ rfl
          case c0_19 =>
            intro wq hbw st  K hK
            have KQ := HB.out.trans (hbw.mono HB.out.size)
            simp only [Act.put, List.setIfInBounds_toArray, List.set_cons_zero, List.set_cons_succ] at hK ⊢
            unfold opStep
            rw [if_neg (by change ¬ (false = true); exact Bool.false_ne_true)]
            exact hK.out _ _ (Below.refl _ _) rfl _ rfl
          case c0_20 =>
            intro wq hbw st  K hK
            have KQ := HB.out.trans (hbw.mono HB.out.size)
            simp only [Act.put, List.setIfInBounds_toArray, List.set_cons_zero, List.set_cons_succ] at hK ⊢
            unfold opStep
            rw [if_neg (by change ¬ (false = true); exact Bool.false_ne_true)]
            exact hK.out _ _ (Below.refl _ _) rfl _ rfl
          case c0_21 =>
            intro wq hbw st  K hK
            have KQ := HB.out.trans (hbw.mono HB.out.size)
            simp only [Act.put, List.setIfInBounds_toArray, List.set_cons_zero, List.set_cons_succ] at hK ⊢
            unfold opStep
            rw [if_neg (by change ¬ (false = true); exact Bool.false_ne_true)]
            exact hK.out _ _ (Below.refl _ _) rfl _ rfl
          case c0_22 =>
            intro wq hbw st  K hK
            have KQ := HB.out.trans (hbw.mono HB.out.size)
            simp only [Act.put, List.setIfInBounds_toArray, List.set_cons_zero, List.set_cons_succ] at hK ⊢
            unfold opStep
            rw [if_neg (by change ¬ (false = true); exact Bool.false_ne_true)]
            exact hK.out _ _ (Below.refl _ _) rfl _ rfl
          case c0_23 =>
            intro wq hbw st  K hK
            have KQ := HB.out.trans (hbw.mono HB.out.size)
            simp only [Act.put, List.setIfInBounds_toArray, List.set_cons_zero, List.set_cons_succ] at hK ⊢
            unfold opStep
            rw [if_pos (by rfl)]
            go_simp
            exact hK.out _ _ (Below.refl _ _) rfl _ rfl
          case c0_24 =>
            intro wq hbw st  K hK
            have KQ := HB.out.trans (hbw.mono HB.out.size)
            simp only [Act.put, List.setIfInBounds_toArray, List.set_cons_zero, List.set_cons_succ] at hK ⊢
            unfold opStep
            rw [if_pos (by rfl)]
            go_simp
            exact hK.out _ _ (Below.refl _ _) rfl _ rfl
          case c0_25 =>
            intro wq hbw st  K hK
            have KQ := HB.out.trans (hbw.mono HB.out.size)
            simp only [Act.put, List.setIfInBounds_toArray, List.set_cons_zero, List.set_cons_succ] at hK ⊢
            unfold opStep
            rw [if_neg (by change ¬ (false = true); exact Bool.false_ne_true)]
            exact hK.out _ _ (Below.refl _ _) rfl _ rfl
          case c0_26 =>
            intro wq hbw st  K hK
            have KQ := HB.out.trans (hbw.mono HB.out.size)
            simp only [Act.put, List.setIfInBounds_toArray, List.set_cons_zero, List.set_cons_succ] at hK ⊢
            unfold opStep
            rw [if_neg (by change ¬ (false = true); exact Bool.false_ne_true)]
            exact hK.out _ _ (Below.refl _ _) rfl _ rfl
          case c0_27 =>
            intro wq hbw st  K hK
            have KQ := HB.out.trans (hbw.mono HB.out.size)
            simp only [Act.put, List.setIfInBounds_toArray, List.set_cons_zero, List.set_cons_succ] at hK ⊢
            unfold opStep
            rw [if_neg (by change ¬ (false = true); exact Bool.false_ne_true)]
            exact hK.out _ _ (Below.refl _ _) rfl _ rfl
          case c0_28 =>
            intro wq hbw st  K hK
            have KQ := HB.out.trans (hbw.mono HB.out.size)
            simp only [Act.put, List.setIfInBounds_toArray, List.set_cons_zero, List.set_cons_succ] at hK ⊢
            unfold opStep
            rw [if_neg (by change ¬ (false = true); exact Bool.false_ne_true)]
            exact hK.out _ _ (Below.refl _ _) rfl _ rfl
          case c0_29 =>
            intro wq hbw st  K hK
            have KQ := HB.out.trans (hbw.mono HB.out.size)
            simp only [Act.put, List.setIfInBounds_toArray, List.set_cons_zero, List.set_cons_succ] at hK ⊢
            unfold opStep
            rw [if_neg (by change ¬ (false = true); exact Bool.false_ne_true)]
            exact hK.out _ _ (Below.refl _ _) rfl _ rfl
          case c0_30 =>
            intro wq hbw st  K hK
            have KQ := HB.out.trans (hbw.mono HB.out.size)
            simp only [Act.put, List.setIfInBounds_toArray, List.set_cons_zero, List.set_cons_succ] at hK ⊢
            unfold opStep
            rw [if_neg (by change ¬ (false = true); exact Bool.false_ne_true)]
            exact hK.out _ _ (Below.refl _ _) rfl _ rfl
          case c0_31 =>
            intro wq hbw st  K hK
            have KQ := HB.out.trans (hbw.mono HB.out.size)
            simp only [Act.put, List.setIfInBounds_toArray, List.set_cons_zero, List.set_cons_succ] at hK ⊢
            unfold opStep
            rw [if_neg (by change ¬ (false = true); exact Bool.false_ne_true)]
            exact hK.out _ _ (Below.refl _ _) rfl _ rfl
          case c0_32 =>
            intro wq hbw st  K hK
            have KQ := HB.out.trans (hbw.mono HB.out.size)
            simp only [Act.put, List.setIfInBounds_toArray, List.set_cons_zero, List.set_cons_succ] at hK ⊢
            unfold opStep
            rw [if_neg (by change ¬ (false = true); exact Bool.false_ne_true)]
            exact hK.out _ _ (Below.refl _ _) rfl _ rfl
          case c0_33 =>
            intro wq hbw st  K hK
            have KQ := HB.out.trans (hbw.mono HB.out.size)
            simp only [Act.put, List.setIfInBounds_toArray, List.set_cons_zero, List.set_cons_succ] at hK ⊢
            unfold opStep
            rw [if_neg (by change ¬ (false = true); exact Bool.false_ne_true)]
            exact hK.out _ _ (Below.refl _ _) rfl _ rfl
          case c0_34 =>
            intro wq hbw st  K hK
            have KQ := HB.out.trans (hbw.mono HB.out.size)
            simp only [Act.put, List.setIfInBounds_toArray, List.set_cons_zero, List.set_cons_succ] at hK ⊢
            unfold opStep
            rw [if_neg (by change ¬ (false = true); exact Bool.false_ne_true)]
            exact hK.out _ _ (Below.refl _ _) rfl _ rfl
          case c0_35 =>
            intro wq hbw st  K hK
            have KQ := HB.out.trans (hbw.mono HB.out.size)
            simp only [Act.put, List.setIfInBounds_toArray, List.set_cons_zero, List.set_cons_succ] at hK ⊢
            unfold opStep
            rw [if_neg (by change ¬ (false = true); exact Bool.false_ne_true)]
            exact hK.out _ _ (Below.refl _ _) rfl _ rfl
          case c0_36 =>
            intro wq hbw st  K hK
            have KQ := HB.out.trans (hbw.mono HB.out.size)
            simp only [Act.put, List.setIfInBounds_toArray, List.set_cons_zero, List.set_cons_succ] at hK ⊢
            unfold opStep
            rw [if_neg (by change ¬ (false = true); exact Bool.false_ne_true)]
            exact hK.out _ _ (Below.refl _ _) rfl _ rfl
          case c0_37 =>
            intro wq hbw st  K hK
            have KQ := HB.out.trans (hbw.mono HB.out.size)
            simp only [Act.put, List.setIfInBounds_toArray, List.set_cons_zero, List.set_cons_succ] at hK ⊢
            unfold opStep
            rw [if_pos (by rfl)]
            go_simp
            exact hK.out _ _ (Below.refl _ _) rfl _ rfl
          case c0_fin =>
            intro wq hbw
            try simp only [FinAll]
            simp only [Act.put, List.setIfInBounds_toArray, List.set_cons_zero, List.set_cons_succ]
            have KQ := HB.out.trans (hbw.mono HB.out.size)
            go_wp2
            go_ret
            exact ⟨rfl, KQ⟩
      · have hki : ¬ (k : Int) < a.length := by omega
        obtain rfl : res = true := HYES.out (List.ext_getElem HLEN.out fun j h1 h2 => HALL.out j h1 h2 (by omega))
        go_wp2
        go_ret
        exact ⟨rfl, HB.out⟩
  · have e1 : ((a.length : Int) != (b.length : Int)) = true := by simpa using fun h => hlen (by omega)
    obtain rfl : res = false := HNO.out fun e => hlen (by rw [e])
    clear HNO HYES HV
    go_enter Try.func35, Try.ntmps35
    go_wp2
    go_ret
    exact ⟨rfl, Below.refl _ _⟩
set_option maxRecDepth 100000 in
set_option maxHeartbeats 4000000 in
theorem same_acks {P P' : Nat → Prop} (v u : Value) (a b : List AckM) (w : World) (hv : ReadsD P w v (acksD a)) (hu : ReadsD P' w u (acksD b)) : Calls Try.prog 37 #[v, u] w (BoolMade w (eqb a b)) := by
  obtain ⟨s1, k1, rfl, hl1, hm1, -, hL1⟩ := ReadsD.slcM (f := ackD) hv
  obtain ⟨s2, k2, rfl, hl2, hm2, -, hL2⟩ := ReadsD.slcM (f := ackD) hu
  unfold maxLen at hm1 hm2
  have HV := Lib.hid (And.intro hv hu)
  clear hv hu
  have HNO : Hid (¬ a = b → eqb a b = false) := Lib.hid eqb_neg
  have HYES : Hid (a = b → eqb a b = true) := Lib.hid eqb_pos
  generalize eqb a b = res at *
  by_cases hlen : a.length = b.length
  · have e1 : ((a.length : Int) != (b.length : Int)) = false := by rw [hlen]; simp
    have HLEN := Lib.hid hlen
    clear hlen
    go_enter Try.func37, Try.ntmps37
    go_wp2
    clear e1
    go_loopg [5] a.length (fun m i wr => ∃ k : Nat, m + k = a.length ∧ i = .int .i64 k ∧ (∀ j (h1 : j < a.length) (h2 : j < b.length), j < k → a[j] = b[j]) ∧ Below w.heap.size w wr)
    case atStart => exact ⟨0, by omega, rfl, fun j _ _ h => by omega, Below.refl _ _⟩
    case round =>
      rename World => w1
      obtain ⟨k, hmk, rfl, hall, hb⟩ := hrel
      have HM := Lib.hid hmk
      have HALL := Lib.hid hall
      have HB := Lib.hid hb
      have hk : k ≤ a.length := by omega
      have hk0 : (0 : Int) ≤ (k : Int) := by omega
      clear hmk hall hb
      by_cases hlt : k < a.length
      · have hlt2 : k < b.length := by have := HLEN.out; omega
        have hki : (k : Int) < a.length := by omega
        have hkj : (k : Int) < b.length := by omega
        obtain ⟨b1, o1, c1, cs1, e1, -, -, -, -, g1, q1⟩ := ReadsD.item (f := ackD) HV.out.1 hlt
        obtain ⟨b2, o2, c2, cs2, e2, -, -, -, -, g2, q2⟩ := ReadsD.item (f := ackD) HV.out.2 hlt2
        injection e1 with e1 e3 e4
        injection e2 with e2 e5 e6
        subst e1 e2
        clear e3 e4 e5 e6
        have HNK : Hid (a[k] ≠ b[k] → res = false) := Lib.hid fun h => HNO.out fun h2 => h (by simp only [h2])
        have HGK : Hid (a[k] = b[k] → ∀ j (h1 : j < a.length) (h2 : j < b.length), j < k + 1 → a[j] = b[j]) := Lib.hid fun h1 j hj hj2 hjk => by
          by_cases h2 : j = k
          · subst h2; exact h1
          · exact HALL.out j hj hj2 (by omega)
        generalize a[k] = x at *
        generalize b[k] = y at *
        have HLT := Lib.hid (And.intro hlt hlt2)
        clear hlt hlt2
        obtain ⟨v10, cs1, rfl, r10, qq10⟩ := CellsD.cons q1
        clear q1
        have e10 := r10.i
        subst e10
        clear r10
        obtain ⟨v11, cs1, rfl, r11, qq11⟩ := CellsD.cons qq10
        clear qq10
        obtain ⟨s11, t11, rfl, -⟩ := r11.bslc
        have en1 := CellsD.nil qq11
        subst en1
        clear qq11
        obtain ⟨v20, cs2, rfl, r20, qq20⟩ := CellsD.cons q2
        clear q2
        have e20 := r20.i
        subst e20
        clear r20
        obtain ⟨v21, cs2, rfl, r21, qq21⟩ := CellsD.cons qq20
        clear qq20
        obtain ⟨s21, t21, rfl, -⟩ := r21.bslc
        have en2 := CellsD.nil qq21
        subst en2
        clear qq21
        have HC1 := Lib.hid (fun (wq : World) (hq : Below w.heap.size w wq) => And.intro (show wq.cell? ⟨b1, o1 + k * 2, none⟩ = some (.int .i64 x.r) from g1 wq hq 0 _ rfl) (show wq.cell? ⟨b1, o1 + k * 2 + 1, none⟩ = some (.slice s11 x.tag.length t11) from g1 wq hq 1 _ rfl))
        have HC2 := Lib.hid (fun (wq : World) (hq : Below w.heap.size w wq) => And.intro (show wq.cell? ⟨b2, o2 + k * 2, none⟩ = some (.int .i64 y.r) from g2 wq hq 0 _ rfl) (show wq.cell? ⟨b2, o2 + k * 2 + 1, none⟩ = some (.slice s21 y.tag.length t21) from g2 wq hq 1 _ rfl))
        have HR1 := Lib.hid (And.intro r11 r21)
        clear r11 r21
        clear g1 g2
        by_cases n0 : x.r = y.r
        · have HN0 : Hid ((x.r != y.r) = false) := Lib.hid (by simp [n0])
          by_cases n1 : x.tag = y.tag
          · have HN1 : Hid (eqb x.tag y.tag = true) := Lib.hid (eqb_pos n1)
            have HXY := Lib.hid (HGK.out (by cases x; cases y; simp only at n0 n1; subst n0 n1; rfl))
            clear HGK n0 n1
            go_wp2_with fail
            refine region_left [.is (.slice (some ⟨b1, o1, none⟩) a.length k1), .is (.int .i64 (k : Int)), .is (.pointer (some ⟨b1, o1 + k * 2, none⟩)), .is (.pointer (some ⟨b1, o1 + k * 2, none⟩)), .is (.int .i64 x.r), .is (.slice (some ⟨b2, o2, none⟩) b.length k2), .is (.int .i64 (k : Int)), .is (.pointer (some ⟨b2, o2 + k * 2, none⟩)), .is (.pointer (some ⟨b2, o2 + k * 2, none⟩)), .is (.int .i64 y.r), .is (.bool false), .is (.bool false), .is (.slice (some ⟨b1, o1, none⟩) a.length k1), .is (.int .i64 (k : Int)), .is (.pointer (some ⟨b1, o1 + k * 2, none⟩)), .is (.pointer (some ⟨b1, o1 + k * 2 + 1, none⟩)), .is (.slice s11 x.tag.length t11), .is (.slice (some ⟨b2, o2, none⟩) b.length k2), .is (.int .i64 (k : Int)), .is (.pointer (some ⟨b2, o2 + k * 2, none⟩)), .is (.pointer (some ⟨b2, o2 + k * 2 + 1, none⟩)), .is (.slice s21 y.tag.length t21), .is (.bool true), .is (.bool false), .is (.bool false)] (by kernel_rfl) rfl (by kernel_rfl) (by kernel_rfl) (.cons ?c2_0 (.cons ?c2_1 (.cons ?c2_2 (.cons ?c2_3 (.cons ?c2_4 (.cons ?c2_5 (.cons ?c2_6 (.cons ?c2_7 (.cons ?c2_8 (.cons ?c2_9 (.cons ?c2_10 (.cons ?c2_11 (.cons ?c2_12 (.cons ?c2_13 (.cons ?c2_14 (.cons ?c2_15 (.cons ?c2_16 (.cons ?c2_17 (.cons ?c2_18 (.cons ?c2_19 (.cons ?c2_20 (.cons ?c2_21 (.cons ?c2_22 (.cons ?c2_23 (.cons ?c2_24 .nil))))))))))))))))))))))))) ?c2_fin
            case c2_0 =>
              intro wq hbw st  K hK
              have KQ := HB.out.trans (hbw.mono HB.out.size)
              simp only [Act.put, List.setIfInBounds_toArray, List.set_cons_zero, List.set_cons_succ] at hK ⊢
              unfold opStep
              rw [if_pos (by rfl)]
              go_simp
              exact hK.out _ _ (Below.refl _ _) rfl _ rfl
            case c2_1 =>
              intro wq hbw st  K hK
              have KQ := HB.out.trans (hbw.mono HB.out.size)
              simp only [Act.put, List.setIfInBounds_toArray, List.set_cons_zero, List.set_cons_succ] at hK ⊢
              unfold opStep
              rw [if_pos (by rfl)]
              go_simp
              exact hK.out _ _ (Below.refl _ _) rfl _ rfl
            case c2_2 =>
              intro wq hbw st  K hK
              have KQ := HB.out.trans (hbw.mono HB.out.size)
              simp only [Act.put, List.setIfInBounds_toArray, List.set_cons_zero, List.set_cons_succ] at hK ⊢
              unfold opStep
              rw [if_pos (by rfl)]
              go_simp
              exact hK.out _ _ (Below.refl _ _) rfl _ rfl
            case c2_3 =>
              intro wq hbw st  K hK
              have KQ := HB.out.trans (hbw.mono HB.out.size)
              simp only [Act.put, List.setIfInBounds_toArray, List.set_cons_zero, List.set_cons_succ] at hK ⊢
              unfold opStep
              rw [if_pos (by rfl)]
              go_simp
              exact hK.out _ _ (Below.refl _ _) rfl _ rfl
            case c2_4 =>
              intro wq hbw st  K hK
              have KQ := HB.out.trans (hbw.mono HB.out.size)
              simp only [Act.put, List.setIfInBounds_toArray, List.set_cons_zero, List.set_cons_succ] at hK ⊢
              unfold opStep
              rw [if_pos (by rfl)]
              have dd := Lib.hid (HC1.out wq KQ)
              have d0 := dd.out.1
              go_simp
              exact hK.out _ _ (Below.refl _ _) rfl _ rfl
            case c2_5 =>
              intro wq hbw st  K hK
              have KQ := HB.out.trans (hbw.mono HB.out.size)
              simp only [Act.put, List.setIfInBounds_toArray, List.set_cons_zero, List.set_cons_succ] at hK ⊢
              unfold opStep
              rw [if_pos (by rfl)]
              go_simp
              exact hK.out _ _ (Below.refl _ _) rfl _ rfl
            case c2_6 =>
              intro wq hbw st  K hK
              have KQ := HB.out.trans (hbw.mono HB.out.size)
              simp only [Act.put, List.setIfInBounds_toArray, List.set_cons_zero, List.set_cons_succ] at hK ⊢
              unfold opStep
              rw [if_pos (by rfl)]
              go_simp
              exact hK.out _ _ (Below.refl _ _) rfl _ rfl
            case c2_7 =>
              intro wq hbw st  K hK
              have KQ := HB.out.trans (hbw.mono HB.out.size)
              simp only [Act.put, List.setIfInBounds_toArray, List.set_cons_zero, List.set_cons_succ] at hK ⊢
              unfold opStep
              rw [if_pos (by rfl)]
              go_simp
              exact hK.out _ _ (Below.refl _ _) rfl _ rfl
            case c2_8 =>
              intro wq hbw st  K hK
              have KQ := HB.out.trans (hbw.mono HB.out.size)
              simp only [Act.put, List.setIfInBounds_toArray, List.set_cons_zero, List.set_cons_succ] at hK ⊢
              unfold opStep
              rw [if_pos (by rfl)]
              go_simp
              exact hK.out _ _ (Below.refl _ _) rfl _ rfl
            case c2_9 =>
              intro wq hbw st  K hK
              have KQ := HB.out.trans (hbw.mono HB.out.size)
              simp only [Act.put, List.setIfInBounds_toArray, List.set_cons_zero, List.set_cons_succ] at hK ⊢
              unfold opStep
              rw [if_pos (by rfl)]
              have dd := Lib.hid (HC2.out wq KQ)
              have d0 := dd.out.1
              go_simp
              exact hK.out _ _ (Below.refl _ _) rfl _ rfl
            case c2_10 =>
              intro wq hbw st  K hK
              have KQ := HB.out.trans (hbw.mono HB.out.size)
              simp only [Act.put, List.setIfInBounds_toArray, List.set_cons_zero, List.set_cons_succ] at hK ⊢
              unfold opStep
              rw [if_pos (by rfl)]
              have nn := HN0.out
              go_simp
              exact hK.out _ _ (Below.refl _ _) rfl _ rfl
            case c2_11 =>
              intro wq hbw st  K hK
              have KQ := HB.out.trans (hbw.mono HB.out.size)
              simp only [Act.put, List.setIfInBounds_toArray, List.set_cons_zero, List.set_cons_succ] at hK ⊢
              unfold opStep
              rw [if_pos (by rfl)]
              go_simp
              exact hK.out _ _ (Below.refl _ _) rfl _ rfl
            case c2_12 =>
              intro wq hbw st  K hK
              have KQ := HB.out.trans (hbw.mono HB.out.size)
              simp only [Act.put, List.setIfInBounds_toArray, List.set_cons_zero, List.set_cons_succ] at hK ⊢
              unfold opStep
              rw [if_pos (by rfl)]
              go_simp
              exact hK.out _ _ (Below.refl _ _) rfl _ rfl
            case c2_13 =>
              intro wq hbw st  K hK
              have KQ := HB.out.trans (hbw.mono HB.out.size)
              simp only [Act.put, List.setIfInBounds_toArray, List.set_cons_zero, List.set_cons_succ] at hK ⊢
              unfold opStep
              rw [if_pos (by rfl)]
              go_simp
              exact hK.out _ _ (Below.refl _ _) rfl _ rfl
            case c2_14 =>
              intro wq hbw st  K hK
              have KQ := HB.out.trans (hbw.mono HB.out.size)
              simp only [Act.put, List.setIfInBounds_toArray, List.set_cons_zero, List.set_cons_succ] at hK ⊢
              unfold opStep
              rw [if_pos (by rfl)]
              go_simp
              exact hK.out _ _ (Below.refl _ _) rfl _ rfl
            case c2_15 =>
              intro wq hbw st  K hK
              have KQ := HB.out.trans (hbw.mono HB.out.size)
              simp only [Act.put, List.setIfInBounds_toArray, List.set_cons_zero, List.set_cons_succ] at hK ⊢
              unfold opStep
              rw [if_pos (by rfl)]
              go_simp
              exact hK.out _ _ (Below.refl _ _) rfl _ rfl
            case c2_16 =>
              intro wq hbw st  K hK
              have KQ := HB.out.trans (hbw.mono HB.out.size)
              simp only [Act.put, List.setIfInBounds_toArray, List.set_cons_zero, List.set_cons_succ] at hK ⊢
              unfold opStep
              rw [if_pos (by rfl)]
              have dd := Lib.hid (HC1.out wq KQ)
              have d0 := dd.out.2
              go_simp
              exact hK.out _ _ (Below.refl _ _) rfl _ rfl
            case c2_17 =>
              intro wq hbw st  K hK
              have KQ := HB.out.trans (hbw.mono HB.out.size)
              simp only [Act.put, List.setIfInBounds_toArray, List.set_cons_zero, List.set_cons_succ] at hK ⊢
              unfold opStep
              rw [if_pos (by rfl)]
              go_simp
              exact hK.out _ _ (Below.refl _ _) rfl _ rfl
            case c2_18 =>
              intro wq hbw st  K hK
              have KQ := HB.out.trans (hbw.mono HB.out.size)
              simp only [Act.put, List.setIfInBounds_toArray, List.set_cons_zero, List.set_cons_succ] at hK ⊢
              unfold opStep
              rw [if_pos (by rfl)]
              go_simp
              exact hK.out _ _ (Below.refl _ _) rfl _ rfl
            case c2_19 =>
              intro wq hbw st  K hK
              have KQ := HB.out.trans (hbw.mono HB.out.size)
              simp only [Act.put, List.setIfInBounds_toArray, List.set_cons_zero, List.set_cons_succ] at hK ⊢
              unfold opStep
              rw [if_pos (by rfl)]
              go_simp
              exact hK.out _ _ (Below.refl _ _) rfl _ rfl
            case c2_20 =>
              intro wq hbw st  K hK
              have KQ := HB.out.trans (hbw.mono HB.out.size)
              simp only [Act.put, List.setIfInBounds_toArray, List.set_cons_zero, List.set_cons_succ] at hK ⊢
              unfold opStep
              rw [if_pos (by rfl)]
              go_simp
              exact hK.out _ _ (Below.refl _ _) rfl _ rfl
            case c2_21 =>
              intro wq hbw st  K hK
              have KQ := HB.out.trans (hbw.mono HB.out.size)
              simp only [Act.put, List.setIfInBounds_toArray, List.set_cons_zero, List.set_cons_succ] at hK ⊢
              unfold opStep
              rw [if_pos (by rfl)]
              have dd := Lib.hid (HC2.out wq KQ)
              have d0 := dd.out.2
              go_simp
              exact hK.out _ _ (Below.refl _ _) rfl _ rfl
            case c2_22 =>
              intro wq hbw st  K hK
              have KQ := HB.out.trans (hbw.mono HB.out.size)
              simp only [Act.put, List.setIfInBounds_toArray, List.set_cons_zero, List.set_cons_succ] at hK ⊢
              unfold opStep
              rw [if_pos (by rfl)]
              go_simp
              have hpc := same_bytes _ _ x.tag y.tag wq (HR1.out.1.on KQ) (HR1.out.2.on KQ)
              rw [HN1.out] at hpc
              refine hpc.mono ?_
              rintro e wz ⟨rfl, hbz⟩
              go_simp
              exact hK.out _ _ hbz rfl _ rfl
            case c2_23 =>
              intro wq hbw st  K hK
              have KQ := HB.out.trans (hbw.mono HB.out.size)
              simp only [Act.put, List.setIfInBounds_toArray, List.set_cons_zero, List.set_cons_succ] at hK ⊢
              unfold opStep
              rw [if_pos (by rfl)]
              go_simp
              exact hK.out _ _ (Below.refl _ _) rfl _ rfl
            case c2_24 =>
              intro wq hbw st  K hK
              have KQ := HB.out.trans (hbw.mono HB.out.size)
              simp only [Act.put, List.setIfInBounds_toArray, List.set_cons_zero, List.set_cons_succ] at hK ⊢
              unfold opStep
              rw [if_pos (by rfl)]
              go_simp
              exact hK.out _ _ (Below.refl _ _) rfl _ rfl
            case c2_fin =>
              intro wq hbw
              try simp only [FinAll]
              simp only [Act.put, List.setIfInBounds_toArray, List.set_cons_zero, List.set_cons_succ]
              have KQ := Lib.hid (HB.out.trans (hbw.mono HB.out.size))
              clear hbw
              go_wp2
              go_roundg (a.length - (k + 1))
              case measure => have := HM.out; have := HLT.out.1; omega
              case rel => exact ⟨k + 1, by have := HLT.out.1; omega, by go_num, HXY.out, KQ.out⟩
          · have HN1 : Hid (eqb x.tag y.tag = false) := Lib.hid (eqb_neg n1)
            obtain rfl : res = false := HNK.out fun e => n1 (by rw [e])
            clear HNK HGK HNO HYES n0 n1
            go_wp2_with fail
            refine region_left [.is (.slice (some ⟨b1, o1, none⟩) a.length k1), .is (.int .i64 (k : Int)), .is (.pointer (some ⟨b1, o1 + k * 2, none⟩)), .is (.pointer (some ⟨b1, o1 + k * 2, none⟩)), .is (.int .i64 x.r), .is (.slice (some ⟨b2, o2, none⟩) b.length k2), .is (.int .i64 (k : Int)), .is (.pointer (some ⟨b2, o2 + k * 2, none⟩)), .is (.pointer (some ⟨b2, o2 + k * 2, none⟩)), .is (.int .i64 y.r), .is (.bool false), .is (.bool false), .is (.slice (some ⟨b1, o1, none⟩) a.length k1), .is (.int .i64 (k : Int)), .is (.pointer (some ⟨b1, o1 + k * 2, none⟩)), .is (.pointer (some ⟨b1, o1 + k * 2 + 1, none⟩)), .is (.slice s11 x.tag.length t11), .is (.slice (some ⟨b2, o2, none⟩) b.length k2), .is (.int .i64 (k : Int)), .is (.pointer (some ⟨b2, o2 + k * 2, none⟩)), .is (.pointer (some ⟨b2, o2 + k * 2 + 1, none⟩)), .is (.slice s21 y.tag.length t21), .is (.bool false), .is (.bool true), .is (.bool true)] (by kernel_rfl) rfl (by kernel_rfl) (by kernel_rfl) (.cons ?c1_0 (.cons ?c1_1 (.cons ?c1_2 (.cons ?c1_3 (.cons ?c1_4 (.cons ?c1_5 (.cons ?c1_6 (.cons ?c1_7 (.cons ?c1_8 (.cons ?c1_9 (.cons ?c1_10 (.cons ?c1_11 (.cons ?c1_12 (.cons ?c1_13 (.cons ?c1_14 (.cons ?c1_15 (.cons ?c1_16 (.cons ?c1_17 (.cons ?c1_18 (.cons ?c1_19 (.cons ?c1_20 (.cons ?c1_21 (.cons ?c1_22 (.cons ?c1_23 (.cons ?c1_24 .nil))))))))))))))))))))))))) ?c1_fin
            case c1_0 =>
              intro wq hbw st  K hK
              have KQ := HB.out.trans (hbw.mono HB.out.size)
              simp only [Act.put, List.setIfInBounds_toArray, List.set_cons_zero, List.set_cons_succ] at hK ⊢
              unfold opStep
              rw [if_pos (by rfl)]
              go_simp
              exact hK.out _ _ (Below.refl _ _) rfl _ rfl
            case c1_1 =>
              intro wq hbw st  K hK
              have KQ := HB.out.trans (hbw.mono HB.out.size)
              simp only [Act.put, List.setIfInBounds_toArray, List.set_cons_zero, List.set_cons_succ] at hK ⊢
              unfold opStep
              rw [if_pos (by rfl)]
              go_simp
              exact hK.out _ _ (Below.refl _ _) rfl _ rfl
            case c1_2 =>
              intro wq hbw st  K hK
              have KQ := HB.out.trans (hbw.mono HB.out.size)
              simp only [Act.put, List.setIfInBounds_toArray, List.set_cons_zero, List.set_cons_succ] at hK ⊢
              unfold opStep
              rw [if_pos (by rfl)]
              go_simp
              exact hK.out _ _ (Below.refl _ _) rfl _ rfl
            case c1_3 =>
              intro wq hbw st  K hK
              have KQ := HB.out.trans (hbw.mono HB.out.size)
              simp only [Act.put, List.setIfInBounds_toArray, List.set_cons_zero, List.set_cons_succ] at hK ⊢
              unfold opStep
              rw [if_pos (by rfl)]
              go_simp
              exact hK.out _ _ (Below.refl _ _) rfl _ rfl
            case c1_4 =>
              intro wq hbw st  K hK
              have KQ := HB.out.trans (hbw.mono HB.out.size)
              simp only [Act.put, List.setIfInBounds_toArray, List.set_cons_zero, List.set_cons_succ] at hK ⊢
              unfold opStep
              rw [if_pos (by rfl)]
              have dd := Lib.hid (HC1.out wq KQ)
              have d0 := dd.out.1
              go_simp
              exact hK.out _ _ (Below.refl _ _) rfl _ rfl
            case c1_5 =>
              intro wq hbw st  K hK
              have KQ := HB.out.trans (hbw.mono HB.out.size)
              simp only [Act.put, List.setIfInBounds_toArray, List.set_cons_zero, List.set_cons_succ] at hK ⊢
              unfold opStep
              rw [if_pos (by rfl)]
              go_simp
              exact hK.out _ _ (Below.refl _ _) rfl _ rfl
            case c1_6 =>
              intro wq hbw st  K hK
              have KQ := HB.out.trans (hbw.mono HB.out.size)
              simp only [Act.put, List.setIfInBounds_toArray, List.set_cons_zero, List.set_cons_succ] at hK ⊢
              unfold opStep
              rw [if_pos (by rfl)]
              go_simp
              exact hK.out _ _ (Below.refl _ _) rfl _ rfl
            case c1_7 =>
              intro wq hbw st  K hK
              have KQ := HB.out.trans (hbw.mono HB.out.size)
              simp only [Act.put, List.setIfInBounds_toArray, List.set_cons_zero, List.set_cons_succ] at hK ⊢
              unfold opStep
              rw [if_pos (by rfl)]
              go_simp
              exact hK.out _ _ (Below.refl _ _) rfl _ rfl
            case c1_8 =>
              intro wq hbw st  K hK
              have KQ := HB.out.trans (hbw.mono HB.out.size)
              simp only [Act.put, List.setIfInBounds_toArray, List.set_cons_zero, List.set_cons_succ] at hK ⊢
              unfold opStep
              rw [if_pos (by rfl)]
              go_simp
              exact hK.out _ _ (Below.refl _ _) rfl _ rfl
            case c1_9 =>
              intro wq hbw st  K hK
              have KQ := HB.out.trans (hbw.mono HB.out.size)
              simp only [Act.put, List.setIfInBounds_toArray, List.set_cons_zero, List.set_cons_succ] at hK ⊢
              unfold opStep
              rw [if_pos (by rfl)]
              have dd := Lib.hid (HC2.out wq KQ)
              have d0 := dd.out.1
              go_simp
              exact hK.out _ _ (Below.refl _ _) rfl _ rfl
            case c1_10 =>
              intro wq hbw st  K hK
              have KQ := HB.out.trans (hbw.mono HB.out.size)
              simp only [Act.put, List.setIfInBounds_toArray, List.set_cons_zero, List.set_cons_succ] at hK ⊢
              unfold opStep
              rw [if_pos (by rfl)]
              have nn := HN0.out
              go_simp
              exact hK.out _ _ (Below.refl _ _) rfl _ rfl
            case c1_11 =>
              intro wq hbw st  K hK
              have KQ := HB.out.trans (hbw.mono HB.out.size)
              simp only [Act.put, List.setIfInBounds_toArray, List.set_cons_zero, List.set_cons_succ] at hK ⊢
              unfold opStep
              rw [if_pos (by rfl)]
              go_simp
              exact hK.out _ _ (Below.refl _ _) rfl _ rfl
            case c1_12 =>
              intro wq hbw st  K hK
              have KQ := HB.out.trans (hbw.mono HB.out.size)
              simp only [Act.put, List.setIfInBounds_toArray, List.set_cons_zero, List.set_cons_succ] at hK ⊢
              unfold opStep
              rw [if_pos (by rfl)]
              go_simp
              exact hK.out _ _ (Below.refl _ _) rfl _ rfl
            case c1_13 =>
              intro wq hbw st  K hK
              have KQ := HB.out.trans (hbw.mono HB.out.size)
              simp only [Act.put, List.setIfInBounds_toArray, List.set_cons_zero, List.set_cons_succ] at hK ⊢
              unfold opStep
              rw [if_pos (by rfl)]
              go_simp
              exact hK.out _ _ (Below.refl _ _) rfl _ rfl
            case c1_14 =>
              intro wq hbw st  K hK
              have KQ := HB.out.trans (hbw.mono HB.out.size)
              simp only [Act.put, List.setIfInBounds_toArray, List.set_cons_zero, List.set_cons_succ] at hK ⊢
              unfold opStep
              rw [if_pos (by rfl)]
              go_simp
              exact hK.out _ _ (Below.refl _ _) rfl _ rfl
            case c1_15 =>
              intro wq hbw st  K hK
              have KQ := HB.out.trans (hbw.mono HB.out.size)
              simp only [Act.put, List.setIfInBounds_toArray, List.set_cons_zero, List.set_cons_succ] at hK ⊢
              unfold opStep
              rw [if_pos (by rfl)]
              go_simp
              exact hK.out _ _ (Below.refl _ _) rfl _ rfl
            case c1_16 =>
              intro wq hbw st  K hK
              have KQ := HB.out.trans (hbw.mono HB.out.size)
              simp only [Act.put, List.setIfInBounds_toArray, List.set_cons_zero, List.set_cons_succ] at hK ⊢
              unfold opStep
              rw [if_pos (by rfl)]
              have dd := Lib.hid (HC1.out wq KQ)
              have d0 := dd.out.2
              go_simp
              exact hK.out _ _ (Below.refl _ _) rfl _ rfl
            case c1_17 =>
              intro wq hbw st  K hK
              have KQ := HB.out.trans (hbw.mono HB.out.size)
              simp only [Act.put, List.setIfInBounds_toArray, List.set_cons_zero, List.set_cons_succ] at hK ⊢
              unfold opStep
              rw [if_pos (by rfl)]
              go_simp
              exact hK.out _ _ (Below.refl _ _) rfl _ rfl
            case c1_18 =>
              intro wq hbw st  K hK
              have KQ := HB.out.trans (hbw.mono HB.out.size)
              simp only [Act.put, List.setIfInBounds_toArray, List.set_cons_zero, List.set_cons_succ] at hK ⊢
              unfold opStep
              rw [if_pos (by rfl)]
              go_simp
              exact hK.out _ _ (Below.refl _ _) rfl _ rfl
            case c1_19 =>
              intro wq hbw st  K hK
              have KQ := HB.out.trans (hbw.mono HB.out.size)
              simp only [Act.put, List.setIfInBounds_toArray, List.set_cons_zero, List.set_cons_succ] at hK ⊢
              unfold opStep
              rw [if_pos (by rfl)]
              go_simp
              exact hK.out _ _ (Below.refl _ _) rfl _ rfl
            case c1_20 =>
              intro wq hbw st  K hK
              have KQ := HB.out.trans (hbw.mono HB.out.size)
              simp only [Act.put, List.setIfInBounds_toArray, List.set_cons_zero, List.set_cons_succ] at hK ⊢
              unfold opStep
              rw [if_pos (by rfl)]
              go_simp
              exact hK.out _ _ (Below.refl _ _) rfl _ rfl
            case c1_21 =>
              intro wq hbw st  K hK
              have KQ := HB.out.trans (hbw.mono HB.out.size)
              simp only [Act.put, List.setIfInBounds_toArray, List.set_cons_zero, List.set_cons_succ] at hK ⊢
              unfold opStep
              rw [if_pos (by rfl)]
              have dd := Lib.hid (HC2.out wq KQ)
              have d0 := dd.out.2
              go_simp
              exact hK.out _ _ (Below.refl _ _) rfl _ rfl
            case c1_22 =>
              intro wq hbw st  K hK
              have KQ := HB.out.trans (hbw.mono HB.out.size)
              simp only [Act.put, List.setIfInBounds_toArray, List.set_cons_zero, List.set_cons_succ] at hK ⊢
              unfold opStep
              rw [if_pos (by rfl)]
              go_simp
              have hpc := same_bytes _ _ x.tag y.tag wq (HR1.out.1.on KQ) (HR1.out.2.on KQ)
              rw [HN1.out] at hpc
              refine hpc.mono ?_
              rintro e wz ⟨rfl, hbz⟩
              go_simp
              exact hK.out _ _ hbz rfl _ rfl
            case c1_23 =>
              intro wq hbw st  K hK
              have KQ := HB.out.trans (hbw.mono HB.out.size)
              simp only [Act.put, List.setIfInBounds_toArray, List.set_cons_zero, List.set_cons_succ] at hK ⊢
              unfold opStep
              rw [if_pos (by rfl)]
              go_simp
              exact hK.out _ _ (Below.refl _ _) rfl _ rfl
            case c1_24 =>
              intro wq hbw st  K hK
              have KQ := HB.out.trans (hbw.mono HB.out.size)
              simp only [Act.put, List.setIfInBounds_toArray, List.set_cons_zero, List.set_cons_succ] at hK ⊢
              unfold opStep
              rw [if_pos (by rfl)]
              go_simp
              exact hK.out _ _ (Below.refl _ _) rfl _ rfl
            case c1_fin =>
              intro wq hbw
              try simp only [FinAll]
              simp only [Act.put, List.setIfInBounds_toArray, List.set_cons_zero, List.set_cons_succ]
              have KQ := HB.out.trans (hbw.mono HB.out.size)
              go_wp2
              go_ret
              exact ⟨rfl, KQ⟩
        · have HN0 : Hid ((x.r != y.r) = true) := Lib.hid (by simpa using n0)
          obtain rfl : res = false := HNK.out fun e => n0 (by rw [e])
          clear HNK HGK HNO HYES n0
          go_wp2_with fail
          refine region_left [.is (.slice (some ⟨b1, o1, none⟩) a.length k1), .is (.int .i64 (k : Int)), .is (.pointer (some ⟨b1, o1 + k * 2, none⟩)), .is (.pointer (some ⟨b1, o1 + k * 2, none⟩)), .is (.int .i64 x.r), .is (.slice (some ⟨b2, o2, none⟩) b.length k2), .is (.int .i64 (k : Int)), .is (.pointer (some ⟨b2, o2 + k * 2, none⟩)), .is (.pointer (some ⟨b2, o2 + k * 2, none⟩)), .is (.int .i64 y.r), .is (.bool true), .is (.bool true), .is undef, .is undef, .is undef, .is undef, .is undef, .is undef, .is undef, .is undef, .is undef, .is undef, .is undef, .is undef, .is (.bool true)] (by kernel_rfl) rfl (by kernel_rfl) (by kernel_rfl) (.cons ?c0_0 (.cons ?c0_1 (.cons ?c0_2 (.cons ?c0_3 (.cons ?c0_4 (.cons ?c0_5 (.cons ?c0_6 (.cons ?c0_7 (.cons ?c0_8 (.cons ?c0_9 (.cons ?c0_10 (.cons ?c0_11 (.cons ?c0_12 (.cons ?c0_13 (.cons ?c0_14 (.cons ?c0_15 (.cons ?c0_16 (.cons ?c0_17 (.cons ?c0_18 (.cons ?c0_19 (.cons ?c0_20 (.cons ?c0_21 (.cons ?c0_22 (.cons ?c0_23 (.cons ?c0_24 .nil))))))))))))))))))))))))) ?c0_fin
          case c0_0 =>
            intro wq hbw st  K hK
            have KQ := HB.out.trans (hbw.mono HB.out.size)
            simp only [Act.put, List.setIfInBounds_toArray, List.set_cons_zero, List.set_cons_succ] at hK ⊢
            unfold opStep
            rw [if_pos (by rfl)]
            go_simp
            exact hK.out _ _ (Below.refl _ _) rfl _ rfl
          case c0_1 =>
            intro wq hbw st  K hK
            have KQ := HB.out.trans (hbw.mono HB.out.size)
            simp only [Act.put, List.setIfInBounds_toArray, List.set_cons_zero, List.set_cons_succ] at hK ⊢
            unfold opStep
            rw [if_pos (by rfl)]
            go_simp
            exact hK.out _ _ (Below.refl _ _) rfl _ rfl
          case c0_2 =>
            intro wq hbw st  K hK
            have KQ := HB.out.trans (hbw.mono HB.out.size)
            simp only [Act.put, List.setIfInBounds_toArray, List.set_cons_zero, List.set_cons_succ] at hK ⊢
            unfold opStep
            rw [if_pos (by rfl)]
            go_simp
            exact hK.out _ _ (Below.refl _ _) rfl _ rfl
          case c0_3 =>
            intro wq hbw st  K hK
            have KQ := HB.out.trans (hbw.mono HB.out.size)
            simp only [Act.put, List.setIfInBounds_toArray, List.set_cons_zero, List.set_cons_succ] at hK ⊢
            unfold opStep
            rw [if_pos (by rfl)]
            go_simp
            exact hK.out _ _ (Below.refl _ _) rfl _ rfl
          case c0_4 =>
            intro wq hbw st  K hK
            have KQ := HB.out.trans (hbw.mono HB.out.size)
            simp only [Act.put, List.setIfInBounds_toArray, List.set_cons_zero, List.set_cons_succ] at hK ⊢
            unfold opStep
            rw [if_pos (by rfl)]
            have dd := Lib.hid (HC1.out wq KQ)
            have d0 := dd.out.1
            go_simp
            exact hK.out _ _ (Below.refl _ _) rfl _ rfl
          case c0_5 =>
            intro wq hbw st  K hK
            have KQ := HB.out.trans (hbw.mono HB.out.size)
            simp only [Act.put, List.setIfInBounds_toArray, List.set_cons_zero, List.set_cons_succ] at hK ⊢
            unfold opStep
            rw [if_pos (by rfl)]
            go_simp
            exact hK.out _ _ (Below.refl _ _) rfl _ rfl
          case c0_6 =>
            intro wq hbw st  K hK
            have KQ := HB.out.trans (hbw.mono HB.out.size)
            simp only [Act.put, List.setIfInBounds_toArray, List.set_cons_zero, List.set_cons_succ] at hK ⊢
            unfold opStep
            rw [if_pos (by rfl)]
            go_simp
            exact hK.out _ _ (Below.refl _ _) rfl _ rfl
          case c0_7 =>
            intro wq hbw st  K hK
            have KQ := HB.out.trans (hbw.mono HB.out.size)
            simp only [Act.put, List.setIfInBounds_toArray, List.set_cons_zero, List.set_cons_succ] at hK ⊢
            unfold opStep
            rw [if_pos (by rfl)]
            go_simp
            exact hK.out _ _ (Below.refl _ _) rfl _ rfl
          case c0_8 =>
            intro wq hbw st  K hK
            have KQ := HB.out.trans (hbw.mono HB.out.size)
            simp only [Act.put, List.setIfInBounds_toArray, List.set_cons_zero, List.set_cons_succ] at hK ⊢
            unfold opStep
            rw [if_pos (by rfl)]
            go_simp
            exact hK.out _ _ (Below.refl _ _) rfl _ rfl
          case c0_9 =>
            intro wq hbw st  K hK
            have KQ := HB.out.trans (hbw.mono HB.out.size)
            simp only [Act.put, List.setIfInBounds_toArray, List.set_cons_zero, List.set_cons_succ] at hK ⊢
            unfold opStep
            rw [if_pos (by rfl)]
            have dd := Lib.hid (HC2.out wq KQ)
            have d0 := dd.out.1
            go_simp
            exact hK.out _ _ (Below.refl _ _) rfl _ rfl
          case c0_10 =>
            intro wq hbw st  K hK
            have KQ := HB.out.trans (hbw.mono HB.out.size)
            simp only [Act.put, List.setIfInBounds_toArray, List.set_cons_zero, List.set_cons_succ] at hK ⊢
            unfold opStep
            rw [if_pos (by rfl)]
            have nn := HN0.out
            go_simp
            exact hK.out _ _ (Below.refl _ _) rfl _ rfl
          case c0_11 =>
            intro wq hbw st  K hK
            have KQ := HB.out.trans (hbw.mono HB.out.size)
            simp only [Act.put, List.setIfInBounds_toArray, List.set_cons_zero, List.set_cons_succ] at hK ⊢
            unfold opStep
            rw [if_pos (by rfl)]
            go_simp
            exact hK.out _ _ (Below.refl _ _) rfl _ rfl
          case c0_12 =>
            intro wq hbw st  K hK
            have KQ := HB.out.trans (hbw.mono HB.out.size)
            simp only [Act.put, List.setIfInBounds_toArray, List.set_cons_zero, List.set_cons_succ] at hK ⊢
            unfold opStep
            rw [if_neg (by change ¬ (false = true); exact Bool.false_ne_true)]
            exact hK.out _ _ (Below.refl _ _) rfl _ rfl
          case c0_13 =>
            intro wq hbw st  K hK
            have KQ := HB.out.trans (hbw.mono HB.out.size)
            simp only [Act.put, List.setIfInBounds_toArray, List.set_cons_zero, List.set_cons_succ] at hK ⊢
            unfold opStep
            rw [if_neg (by change ¬ (false = true); exact Bool.false_ne_true)]
            exact hK.out _ _ (Below.refl _ _) rfl _ rfl
          case c0_14 =>
            intro wq hbw st  K hK
            have KQ := HB.out.trans (hbw.mono HB.out.size)
            simp only [Act.put, List.setIfInBounds_toArray, List.set_cons_zero, List.set_cons_succ] at hK ⊢
            unfold opStep
            rw [if_neg (by change ¬ (false = true); exact Bool.false_ne_true)]
            exact hK.out _ _ (Below.refl _ _) rfl _ rfl
          case c0_15 =>
            intro wq hbw st  K hK
            have KQ := HB.out.trans (hbw.mono HB.out.size)
            simp only [Act.put, List.setIfInBounds_toArray, List.set_cons_zero, List.set_cons_succ] at hK ⊢
            unfold opStep
            rw [if_neg (by change ¬ (false = true); exact Bool.false_ne_true)]
            exact hK.out _ _ (Below.refl _ _) rfl _ rfl
          case c0_16 =>
            intro wq hbw st  K hK
            have KQ := HB.out.trans (hbw.mono HB.out.size)
            simp only [Act.put, List.setIfInBounds_toArray, List.set_cons_zero, List.set_cons_succ] at hK ⊢
            unfold opStep
            rw [if_neg (by change ¬ (false = true); exact Bool.false_ne_true)]
            exact hK.out _ _ (Below.refl _ _) rfl _ rfl
          case c0_17 =>
            intro wq hbw st  K hK
            have KQ := HB.out.trans (hbw.mono HB.out.size)
            simp only [Act.put, List.setIfInBounds_toArray, List.set_cons_zero, List.set_cons_succ] at hK ⊢
            unfold opStep
            rw [if_neg (by change ¬ (false = true); exact Bool.false_ne_true)]
            exact hK.out _ _ (Below.refl _ _) rfl _ rfl
          case c0_18 =>
            intro wq hbw st  K hK
            have KQ := HB.out.trans (hbw.mono HB.out.size)
            simp only [Act.put, List.setIfInBounds_toArray, List.set_cons_zero, List.set_cons_succ] at hK ⊢
            unfold opStep
            rw [if_neg (by change ¬ (false = true); exact Bool.false_ne_true)]
            exact hK.out _ _ (Below.refl _ _) rfl _ rfl
          case c0_19 =>
            intro wq hbw st  K hK
            have KQ := HB.out.trans (hbw.mono HB.out.size)
            simp only [Act.put, List.setIfInBounds_toArray, List.set_cons_zero, List.set_cons_succ] at hK ⊢
            unfold opStep
            rw [if_neg (by change ¬ (false = true); exact Bool.false_ne_true)]
            exact hK.out _ _ (Below.refl _ _) rfl _ rfl
          case c0_20 =>
            intro wq hbw st  K hK
            have KQ := HB.out.trans (hbw.mono HB.out.size)
            simp only [Act.put, List.setIfInBounds_toArray, List.set_cons_zero, List.set_cons_succ] at hK ⊢
            unfold opStep
            rw [if_neg (by change ¬ (false = true); exact Bool.false_ne_true)]
            exact hK.out _ _ (Below.refl _ _) rfl _ rfl
          case c0_21 =>
            intro wq hbw st  K hK
            have KQ := HB.out.trans (hbw.mono HB.out.size)
            simp only [Act.put, List.setIfInBounds_toArray, List.set_cons_zero, List.set_cons_succ] at hK ⊢
            unfold opStep
            rw [if_neg (by change ¬ (false = true); exact Bool.false_ne_true)]
            exact hK.out _ _ (Below.refl _ _) rfl _ rfl
          case c0_22 =>
            intro wq hbw st  K hK
            have KQ := HB.out.trans (hbw.mono HB.out.size)
            simp only [Act.put, List.setIfInBounds_toArray, List.set_cons_zero, List.set_cons_succ] at hK ⊢
            unfold opStep
            rw [if_neg (by change ¬ (false = true); exact Bool.false_ne_true)]
            exact hK.out _ _ (Below.refl _ _) rfl _ rfl
          case c0_23 =>
            intro wq hbw st  K hK
            have KQ := HB.out.trans (hbw.mono HB.out.size)
            simp only [Act.put, List.setIfInBounds_toArray, List.set_cons_zero, List.set_cons_succ] at hK ⊢
            unfold opStep
            rw [if_neg (by change ¬ (false = true); exact Bool.false_ne_true)]
            exact hK.out _ _ (Below.refl _ _) rfl _ rfl
          case c0_24 =>
            intro wq hbw st  K hK
            have KQ := HB.out.trans (hbw.mono HB.out.size)
            simp only [Act.put, List.setIfInBounds_toArray, List.set_cons_zero, List.set_cons_succ] at hK ⊢
            unfold opStep
            rw [if_pos (by rfl)]
            go_simp
            exact hK.out _ _ (Below.refl _ _) rfl _ rfl
          case c0_fin =>
            intro wq hbw
            try simp only [FinAll]
            simp only [Act.put, List.setIfInBounds_toArray, List.set_cons_zero, List.set_cons_succ]
            have KQ := HB.out.trans (hbw.mono HB.out.size)
            go_wp2
            go_ret
            exact ⟨rfl, KQ⟩
      · have hki : ¬ (k : Int) < a.length := by omega
        obtain rfl : res = true := HYES.out (List.ext_getElem HLEN.out fun j h1 h2 => HALL.out j h1 h2 (by omega))
        go_wp2
        go_ret
        exact ⟨rfl, HB.out⟩
  · have e1 : ((a.length : Int) != (b.length : Int)) = true := by simpa using fun h => hlen (by omega)
    obtain rfl : res = false := HNO.out fun e => hlen (by rw [e])
    clear HNO HYES HV
    go_enter Try.func37, Try.ntmps37
    go_wp2
    go_ret
    exact ⟨rfl, Below.refl _ _⟩
end Go.Proofs.Ytmcdmcnbnnfhnaa
