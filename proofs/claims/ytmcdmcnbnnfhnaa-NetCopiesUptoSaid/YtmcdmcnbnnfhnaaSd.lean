/-
  Chapter 28: equality of lists of commands (the reference).
-/
import Derived.Test.YtmcdmcnbnnfhnaaSc
import Derived.Deep.MidRow
namespace Go.Proofs.Ytmcdmcnbnnfhnaa
open Go.RowKit
set_option maxRecDepth 100000 in
set_option maxHeartbeats 4000000 in
theorem same_commands {P P' : Nat → Prop} (v u : Value) (a b : List CmdM) (w : World) (hv : ReadsD P w v (cmdsD a)) (hu : ReadsD P' w u (cmdsD b)) : Calls Try.prog 36 #[v, u] w (BoolMade w (eqb a b)) := by
  obtain ⟨s1, k1, rfl, hl1, hm1, -, hL1⟩ := ReadsD.slcM (f := cmdD) hv
  obtain ⟨s2, k2, rfl, hl2, hm2, -, hL2⟩ := ReadsD.slcM (f := cmdD) hu
  unfold maxLen at hm1 hm2
  have HV := Lib.hid (And.intro hv hu)
  clear hv hu
  have HNO : Hid (¬ a = b → eqb a b = false) := Lib.hid eqb_neg
  have HYES : Hid (a = b → eqb a b = true) := Lib.hid eqb_pos
  generalize eqb a b = res at *
  by_cases hlen : a.length = b.length
  · have e1 : ((a.length : Int) != (b.length : Int)) = false := by rw [hlen]; simp
    have HLEN := Lib.hid hlen
    clear hlen
    go_enter Try.func36, Try.ntmps36
    go_wp2
    clear e1
    go_loopg [5] a.length (fun m i wr => ∃ k : Nat, m + k = a.length ∧ i = .int .i64 k ∧ (∀ j (h1 : j < a.length) (h2 : j < b.length), j < k → a[j] = b[j]) ∧ Below w.heap.size w wr)
    case atStart => exact ⟨0, by omega, rfl, fun j _ _ h => by omega, Below.refl _ _⟩
    case round =>
      rename World => w1
      obtain ⟨k, hmk, rfl, hall, hb⟩ := hrel
      have HM := Lib.hid hmk
      have HALL := Lib.hid hall
      have HB := Lib.hid hb
      have hk : k ≤ a.length := by omega
      have hk0 : (0 : Int) ≤ (k : Int) := by omega
      clear hmk hall hb
      by_cases hlt : k < a.length
      · have hlt2 : k < b.length := by have := HLEN.out; omega
        have hki : (k : Int) < a.length := by omega
        have hkj : (k : Int) < b.length := by omega
        obtain ⟨b1, o1, c1, cs1, e1, -, -, hn1, -, g1, q1⟩ := ReadsD.item (f := cmdD) HV.out.1 hlt
        obtain ⟨b2, o2, c2, cs2, e2, -, -, hn2, -, g2, q2⟩ := ReadsD.item (f := cmdD) HV.out.2 hlt2
        injection e1 with e1 e3 e4
        injection e2 with e2 e5 e6
        subst e1 e2
        clear e3 e4 e5 e6
        have HNK : Hid (a[k] ≠ b[k] → res = false) := Lib.hid fun h => HNO.out fun h2 => h (by simp only [h2])
        have HGK : Hid (a[k] = b[k] → ∀ j (h1 : j < a.length) (h2 : j < b.length), j < k + 1 → a[j] = b[j]) := Lib.hid fun h1 j hj hj2 hjk => by
          by_cases h2 : j = k
          · subst h2; exact h1
          · exact HALL.out j hj hj2 (by omega)
        generalize a[k] = x at *
        generalize b[k] = y at *
        have HLT := Lib.hid (And.intro hlt hlt2)
        have HC1 := Lib.hid g1
        have HC2 := Lib.hid g2
        have HQ := Lib.hid (And.intro q1 q2)
        have HL := Lib.hid (And.intro hn1 hn2)
        clear hlt hlt2 g1 g2 q1 q2 hn1 hn2
        by_cases m0 : x = y
        · have HM0 : Hid (eqb x y = true) := Lib.hid (eqb_pos m0)
          have HXY := Lib.hid (HGK.out m0)
          clear HGK m0
          go_wp2_with fail
          refine region_left [.is (.slice (some ⟨b1, o1, none⟩) a.length k1), .is (.int .i64 (k : Int)), .is (.pointer (some ⟨b1, o1 + k * 6, none⟩)), .is (.agg cs1.toArray), .is (.slice (some ⟨b2, o2, none⟩) b.length k2), .is (.int .i64 (k : Int)), .is (.pointer (some ⟨b2, o2 + k * 6, none⟩)), .is (.agg cs2.toArray), .is (.bool true), .is (.bool false)] (by kernel_rfl) rfl (by kernel_rfl) (by kernel_rfl) (.cons ?c1_0 (.cons ?c1_1 (.cons ?c1_2 (.cons ?c1_3 (.cons ?c1_4 (.cons ?c1_5 (.cons ?c1_6 (.cons ?c1_7 (.cons ?c1_8 (.cons ?c1_9 .nil)))))))))) ?c1_fin
          case c1_0 =>
            intro wq hbw st  K hK
            have KQ := HB.out.trans (hbw.mono HB.out.size)
            simp only [Act.put, List.setIfInBounds_toArray, List.set_cons_zero, List.set_cons_succ] at hK ⊢
            unfold opStep
            rw [if_pos (by rfl)]
            go_simp
            exact hK.out _ _ (Below.refl _ _) rfl _ rfl
          case c1_1 =>
            intro wq hbw st  K hK
            have KQ := HB.out.trans (hbw.mono HB.out.size)
            simp only [Act.put, List.setIfInBounds_toArray, List.set_cons_zero, List.set_cons_succ] at hK ⊢
            unfold opStep
            rw [if_pos (by rfl)]
            go_simp
            exact hK.out _ _ (Below.refl _ _) rfl _ rfl
          case c1_2 =>
            intro wq hbw st  K hK
            have KQ := HB.out.trans (hbw.mono HB.out.size)
            simp only [Act.put, List.setIfInBounds_toArray, List.set_cons_zero, List.set_cons_succ] at hK ⊢
            unfold opStep
            rw [if_pos (by rfl)]
            go_simp
            exact hK.out _ _ (Below.refl _ _) rfl _ rfl
          case c1_3 =>
            intro wq hbw st  K hK
            have KQ := HB.out.trans (hbw.mono HB.out.size)
            simp only [Act.put, List.setIfInBounds_toArray, List.set_cons_zero, List.set_cons_succ] at hK ⊢
            unfold opStep
            rw [if_pos (by rfl)]
            refine wp_load_mid 81 (.tmp 19) (by rfl) b1 (o1 + k * 6) (by rfl) cs1 _ (HC1.out wq KQ) Try.underlying81 (by rfl) (by rw [HL.out.1]; kernel_rfl) ?_
            exact hK.out _ _ (Below.refl _ _) rfl _ rfl
          case c1_4 =>
            intro wq hbw st  K hK
            have KQ := HB.out.trans (hbw.mono HB.out.size)
            simp only [Act.put, List.setIfInBounds_toArray, List.set_cons_zero, List.set_cons_succ] at hK ⊢
            unfold opStep
            rw [if_pos (by rfl)]
            go_simp
            exact hK.out _ _ (Below.refl _ _) rfl _ rfl
          case c1_5 =>
            intro wq hbw st  K hK
            have KQ := HB.out.trans (hbw.mono HB.out.size)
            simp only [Act.put, List.setIfInBounds_toArray, List.set_cons_zero, List.set_cons_succ] at hK ⊢
            unfold opStep
            rw [if_pos (by rfl)]
            go_simp
            exact hK.out _ _ (Below.refl _ _) rfl _ rfl
          case c1_6 =>
            intro wq hbw st  K hK
            have KQ := HB.out.trans (hbw.mono HB.out.size)
            simp only [Act.put, List.setIfInBounds_toArray, List.set_cons_zero, List.set_cons_succ] at hK ⊢
            unfold opStep
            rw [if_pos (by rfl)]
            go_simp
            exact hK.out _ _ (Below.refl _ _) rfl _ rfl
          case c1_7 =>
            intro wq hbw st  K hK
            have KQ := HB.out.trans (hbw.mono HB.out.size)
            simp only [Act.put, List.setIfInBounds_toArray, List.set_cons_zero, List.set_cons_succ] at hK ⊢
            unfold opStep
            rw [if_pos (by rfl)]
            refine wp_load_mid 81 (.tmp 23) (by rfl) b2 (o2 + k * 6) (by rfl) cs2 _ (HC2.out wq KQ) Try.underlying81 (by rfl) (by rw [HL.out.2]; kernel_rfl) ?_
            exact hK.out _ _ (Below.refl _ _) rfl _ rfl
          case c1_8 =>
            intro wq hbw st  K hK
            have KQ := HB.out.trans (hbw.mono HB.out.size)
            simp only [Act.put, List.setIfInBounds_toArray, List.set_cons_zero, List.set_cons_succ] at hK ⊢
            unfold opStep
            rw [if_pos (by rfl)]
            go_simp
            have hpc := same_command cs1 cs2 x y wq (HQ.out.1.on KQ) (HQ.out.2.on KQ)
            rw [HM0.out] at hpc
            refine hpc.mono ?_
            rintro e wz ⟨rfl, hbz⟩
            go_simp
            exact hK.out _ _ hbz rfl _ rfl
          case c1_9 =>
            intro wq hbw st  K hK
            have KQ := HB.out.trans (hbw.mono HB.out.size)
            simp only [Act.put, List.setIfInBounds_toArray, List.set_cons_zero, List.set_cons_succ] at hK ⊢
            unfold opStep
            rw [if_pos (by rfl)]
            go_simp
            exact hK.out _ _ (Below.refl _ _) rfl _ rfl
          case c1_fin =>
            intro wq hbw
            try simp only [FinAll]
            simp only [Act.put, List.setIfInBounds_toArray, List.set_cons_zero, List.set_cons_succ]
            have KQ := Lib.hid (HB.out.trans (hbw.mono HB.out.size))
            clear hbw
            go_wp2
            go_roundg (a.length - (k + 1))
            case measure => have := HM.out; have := HLT.out.1; omega
            case rel => exact ⟨k + 1, by have := HLT.out.1; omega, by go_num, HXY.out, KQ.out⟩
        · have HM0 : Hid (eqb x y = false) := Lib.hid (eqb_neg m0)
          obtain rfl : res = false := HNK.out m0
          clear HNK HGK HNO HYES m0
          go_wp2_with fail
          refine region_left [.is (.slice (some ⟨b1, o1, none⟩) a.length k1), .is (.int .i64 (k : Int)), .is (.pointer (some ⟨b1, o1 + k * 6, none⟩)), .is (.agg cs1.toArray), .is (.slice (some ⟨b2, o2, none⟩) b.length k2), .is (.int .i64 (k : Int)), .is (.pointer (some ⟨b2, o2 + k * 6, none⟩)), .is (.agg cs2.toArray), .is (.bool false), .is (.bool true)] (by kernel_rfl) rfl (by kernel_rfl) (by kernel_rfl) (.cons ?c0_0 (.cons ?c0_1 (.cons ?c0_2 (.cons ?c0_3 (.cons ?c0_4 (.cons ?c0_5 (.cons ?c0_6 (.cons ?c0_7 (.cons ?c0_8 (.cons ?c0_9 .nil)))))))))) ?c0_fin
          case c0_0 =>
            intro wq hbw st  K hK
            have KQ := HB.out.trans (hbw.mono HB.out.size)
            simp only [Act.put, List.setIfInBounds_toArray, List.set_cons_zero, List.set_cons_succ] at hK ⊢
            unfold opStep
            rw [if_pos (by rfl)]
            go_simp
            exact hK.out _ _ (Below.refl _ _) rfl _ rfl
          case c0_1 =>
            intro wq hbw st  K hK
            have KQ := HB.out.trans (hbw.mono HB.out.size)
            simp only [Act.put, List.setIfInBounds_toArray, List.set_cons_zero, List.set_cons_succ] at hK ⊢
            unfold opStep
            rw [if_pos (by rfl)]
            go_simp
            exact hK.out _ _ (Below.refl _ _) rfl _ rfl
          case c0_2 =>
            intro wq hbw st  K hK
            have KQ := HB.out.trans (hbw.mono HB.out.size)
            simp only [Act.put, List.setIfInBounds_toArray, List.set_cons_zero, List.set_cons_succ] at hK ⊢
            unfold opStep
            rw [if_pos (by rfl)]
            go_simp
            exact hK.out _ _ (Below.refl _ _) rfl _ rfl
          case c0_3 =>
            intro wq hbw st  K hK
            have KQ := HB.out.trans (hbw.mono HB.out.size)
            simp only [Act.put, List.setIfInBounds_toArray, List.set_cons_zero, List.set_cons_succ] at hK ⊢
            unfold opStep
            rw [if_pos (by rfl)]
            refine wp_load_mid 81 (.tmp 19) (by rfl) b1 (o1 + k * 6) (by rfl) cs1 _ (HC1.out wq KQ) Try.underlying81 (by rfl) (by rw [HL.out.1]; kernel_rfl) ?_
            exact hK.out _ _ (Below.refl _ _) rfl _ rfl
          case c0_4 =>
            intro wq hbw st  K hK
            have KQ := HB.out.trans (hbw.mono HB.out.size)
            simp only [Act.put, List.setIfInBounds_toArray, List.set_cons_zero, List.set_cons_succ] at hK ⊢
            unfold opStep
            rw [if_pos (by rfl)]
            go_simp
            exact hK.out _ _ (Below.refl _ _) rfl _ rfl
          case c0_5 =>
            intro wq hbw st  K hK
            have KQ := HB.out.trans (hbw.mono HB.out.size)
            simp only [Act.put, List.setIfInBounds_toArray, List.set_cons_zero, List.set_cons_succ] at hK ⊢
            unfold opStep
            rw [if_pos (by rfl)]
            go_simp
            exact hK.out _ _ (Below.refl _ _) rfl _ rfl
          case c0_6 =>
            intro wq hbw st  K hK
            have KQ := HB.out.trans (hbw.mono HB.out.size)
            simp only [Act.put, List.setIfInBounds_toArray, List.set_cons_zero, List.set_cons_succ] at hK ⊢
            unfold opStep
            rw [if_pos (by rfl)]
            go_simp
            exact hK.out _ _ (Below.refl _ _) rfl _ rfl
          case c0_7 =>
            intro wq hbw st  K hK
            have KQ := HB.out.trans (hbw.mono HB.out.size)
            simp only [Act.put, List.setIfInBounds_toArray, List.set_cons_zero, List.set_cons_succ] at hK ⊢
            unfold opStep
            rw [if_pos (by rfl)]
            refine wp_load_mid 81 (.tmp 23) (by rfl) b2 (o2 + k * 6) (by rfl) cs2 _ (HC2.out wq KQ) Try.underlying81 (by rfl) (by rw [HL.out.2]; kernel_rfl) ?_
            exact hK.out _ _ (Below.refl _ _) rfl _ rfl
          case c0_8 =>
            intro wq hbw st  K hK
            have KQ := HB.out.trans (hbw.mono HB.out.size)
            simp only [Act.put, List.setIfInBounds_toArray, List.set_cons_zero, List.set_cons_succ] at hK ⊢
            unfold opStep
            rw [if_pos (by rfl)]
            go_simp
            have hpc := same_command cs1 cs2 x y wq (HQ.out.1.on KQ) (HQ.out.2.on KQ)
            rw [HM0.out] at hpc
            refine hpc.mono ?_
            rintro e wz ⟨rfl, hbz⟩
            go_simp
            exact hK.out _ _ hbz rfl _ rfl
          case c0_9 =>
            intro wq hbw st  K hK
            have KQ := HB.out.trans (hbw.mono HB.out.size)
            simp only [Act.put, List.setIfInBounds_toArray, List.set_cons_zero, List.set_cons_succ] at hK ⊢
            unfold opStep
            rw [if_pos (by rfl)]
            go_simp
            exact hK.out _ _ (Below.refl _ _) rfl _ rfl
          case c0_fin =>
            intro wq hbw
            try simp only [FinAll]
            simp only [Act.put, List.setIfInBounds_toArray, List.set_cons_zero, List.set_cons_succ]
            have KQ := HB.out.trans (hbw.mono HB.out.size)
            go_wp2
            go_ret
            exact ⟨rfl, KQ⟩
      · have hki : ¬ (k : Int) < a.length := by omega
        obtain rfl : res = true := HYES.out (List.ext_getElem HLEN.out fun j h1 h2 => HALL.out j h1 h2 (by omega))
        go_wp2
        go_ret
        exact ⟨rfl, HB.out⟩
  · have e1 : ((a.length : Int) != (b.length : Int)) = true := by simpa using fun h => hlen (by omega)
    obtain rfl : res = false := HNO.out fun e => hlen (by rw [e])
    clear HNO HYES HV
    go_enter Try.func36, Try.ntmps36
    go_wp2
    go_ret
    exact ⟨rfl, Below.refl _ _⟩
end Go.Proofs.Ytmcdmcnbnnfhnaa
