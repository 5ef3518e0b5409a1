/-
  Chapter 55: first of the reference.
  Chapter 55: Order of the reference.
-/
import Derived.Test.YtjijlhjggpibjaaGreatUa
import Derived.Test.YtjijlhjggpibjaaGreatGu
import Derived.Test.YtjijlhjggpibjaaGreatUb
namespace Go.Proofs.YtjijlhjggpibjaaGreat
open Go.RowKit

/-- The levels of the reference. -/
def lvR (h : List Opn) (C : List (List Str)) (i : Nat) : Int := ((lvN C (nth h i) : Nat) : Int)
section
variable {h : List Opn} {C : List (List Str)} {i k : Nat}
theorem key_lv (h1 : ¬ lvR h C i = lvR h C k) : decide (keyG (lvR h C) h i k) = decide (lvR h C i < lvR h C k) := decide_eq_decide.2 (by unfold keyG; omega)
theorem kd_up {i : Nat} : kdI h i = if upO (nth h i) = true then 0 else 1 := by
  unfold kdI upO
  by_cases e : kindO (nth h i) = 1
  · rw [if_pos e, if_pos (decide_eq_true e)]
  · rw [if_neg e, if_neg (by rw [decide_eq_false e]; decide)]
theorem key_kd (h1 : lvR h C i = lvR h C k) {a b : Bool} (ha : upO (nth h i) = a) (hb : upO (nth h k) = b) (h2 : ¬ a = b) : decide (keyG (lvR h C) h i k) = a := by
  have e1 := kd_up (h := h) (i := i)
  have e2 := kd_up (h := h) (i := k)
  rw [ha] at e1
  rw [hb] at e2
  cases a <;> cases b
  · exact absurd rfl h2
  · refine decide_eq_false ?_
    unfold keyG
    simp at e1 e2
    omega
  · refine decide_eq_true ?_
    unfold keyG
    simp at e1 e2
    omega
  · exact absurd rfl h2
theorem key_beg (h1 : lvR h C i = lvR h C k) (h2 : upO (nth h i) = upO (nth h k)) (h3 : ¬ begO (nth h i) = begO (nth h k)) : decide (keyG (lvR h C) h i k) = decide (begO (nth h i) < begO (nth h k)) := by
  have e1 := kd_up (h := h) (i := i)
  have e2 := kd_up (h := h) (i := k)
  rw [h2, ← e2] at e1
  exact decide_eq_decide.2 (by unfold keyG; omega)
theorem key_ix (h1 : lvR h C i = lvR h C k) (h2 : upO (nth h i) = upO (nth h k)) (h3 : begO (nth h i) = begO (nth h k)) : decide (keyG (lvR h C) h i k) = decide (i < k) := by
  have e1 := kd_up (h := h) (i := i)
  have e2 := kd_up (h := h) (i := k)
  rw [h2, ← e2] at e1
  exact decide_eq_decide.2 (by unfold keyG; omega)
end
set_option maxRecDepth 100000 in
set_option maxHeartbeats 16000000 in
theorem first_any (cv v : Value) (C : List (List Str)) (h : List Opn) (i k : Nat) (W : World) (hr : ReadsO W v h) (hc : SetsR W cv C) (hs : SmallH h) (hfc : ∀ s ∈ C, s.length ≤ 1000) (hi : i < h.length) (hk : k < h.length) : Calls Tryz.prog 25 #[v, cv, .int .i64 (i : Int), .int .i64 (k : Int)] W (BoolMade W (decide (keyG (lvR h C) h i k))) := by
  have HR := Lib.hid hr
  have HS := Lib.hid hs
  have HC := Lib.hid hc
  have hn := hs.1
  have HFC := Lib.hid hfc
  obtain ⟨ao, cap, rfl, hl, hm, -, -⟩ := hr
  unfold maxLen at hm
  have HKL := Lib.hid (fun q => key_lv (h := h) (C := C) (i := i) (k := k) q)
  have HKK := Lib.hid (fun q (a b : Bool) r s t => key_kd (h := h) (C := C) (i := i) (k := k) q (a := a) (b := b) r s t)
  have HKB := Lib.hid (fun q r s => key_beg (h := h) (C := C) (i := i) (k := k) q r s)
  have HKX := Lib.hid (fun q r s => key_ix (h := h) (C := C) (i := i) (k := k) q r s)
  generalize hres : decide (keyG (lvR h C) h i k) = res at *
  clear hres hs hc hfc
  have mixed : Tryz.prog.follows .mixedOrders = true := by kernel_rfl
  obtain ⟨b, off, cap1, a4, c4, a5, c5, hv, _, _, hm4, hm5, hl4, hl5, hcell, r1, r2⟩ := HR.out.at2 hi
  injection hv with e1 e2 e3
  subst e1
  have hii : (i : Int) < h.length := by omega
  have hi0 : (0 : Int) ≤ (i : Int) := by omega
  have HN := Lib.hid (And.intro hcell (And.intro r1 r2))
  have FX := Lib.hid (fit_of HS.out hi)
  have HNX : Hid (nth h i = h[i]) := Lib.hid (nth_eq hi)
  clear e2 e3 hcell r1 r2 hm4 hm5 hl4 hl5
  obtain ⟨b', off', cap2', d4, k4, d5, k5, hv, _, _, n4, n5, l4, l5, hcell, s1', s2'⟩ := HR.out.at2 hk
  injection hv with e5 e6 e7
  injection e5 with e5
  injection e5 with e5 e8
  subst e5 e8
  have hki : (k : Int) < h.length := by omega
  have hk0 : (0 : Int) ≤ (k : Int) := by omega
  have HN2 := Lib.hid (And.intro hcell (And.intro s1' s2'))
  have FY := Lib.hid (fit_of HS.out hk)
  have HNY : Hid (nth h k = h[k]) := Lib.hid (nth_eq hk)
  clear e6 e7 hcell s1' s2' n4 n5 l4 l5
  unfold lvR at HKL HKK HKB HKX
  rw [HNX.out, HNY.out] at HKL HKK HKB HKX
  generalize h[i] = x at *
  generalize h[k] = y at *
  clear hi hk HNX HNY
  obtain ⟨q0, q1, q2, q3, q4, q5⟩ := HN.out.1 W (Below.refl _ _)
  obtain ⟨ca, cc, rfl, -, -, -⟩ := id HC.out
  go_enter Tryz.func25, Tryz.ntmps25
  go_wp2_with fail
  refine (level_any _ _ C x _ HC.out ⟨_, _, rfl, HN.out.2.1, HN.out.2.2⟩ FX.out HFC.out).mono ?_
  rintro e w1 ⟨rfl, hb1⟩
  have KW1 := Lib.hid hb1
  clear hb1 q0 q1 q2 q3 q4 q5
  obtain ⟨q0, q1, q2, q3, q4, q5⟩ := HN2.out.1 w1 KW1.out
  go_wp2_with fail
  refine (level_any _ _ C y _ (HC.out.on KW1.out) ⟨_, _, rfl, HN2.out.2.1.keep KW1.out, HN2.out.2.2.keep KW1.out⟩ FY.out HFC.out).mono ?_
  rintro e w2 ⟨rfl, hb2⟩
  have KW := Lib.hid (KW1.out.trans (hb2.mono KW1.out.size))
  clear hb2 KW1 q0 q1 q2 q3 q4 q5
  generalize lvOk C x = o1 at *
  generalize lvOk C y = o2 at *
  generalize lvN C x = n1 at *
  generalize lvN C y = n2 at *
  by_cases hab : (n1 : Int) = (n2 : Int)
  · have e0 := bne_f hab
    have HAB := Lib.hid hab
    clear hab
    cases h1 : upO x with
    | false =>
      cases h2 : upO y with
      | false =>
        have P1 := Lib.hid h1
        have P2 := Lib.hid h2
        have HUU : Hid (upO x = upO y) := Lib.hid (h1.trans h2.symm)
        clear h1 h2
        go_upto_region 5 with fail
        refine region_left [.is (.slice (some ⟨b, off, none⟩) h.length cap), .is (.int .i64 (i : Int)), .is (.pointer (some ⟨b, off + i * 6, none⟩)), .is (.agg #[.int .i64 (cliO x), .int .i64 (kindO x), .int .i64 (begO x), .int .i64 (endO x), .slice a4 (addO x).length c4, .slice a5 (seeO x).length c5]), .is (.bool false), .is (.slice (some ⟨b, off, none⟩) h.length cap), .is (.int .i64 (k : Int)), .is (.pointer (some ⟨b, off + k * 6, none⟩)), .is (.agg #[.int .i64 (cliO y), .int .i64 (kindO y), .int .i64 (begO y), .int .i64 (endO y), .slice d4 (addO y).length k4, .slice d5 (seeO y).length k5]), .is (.bool false), .is (.bool false)] (by kernel_rfl) rfl (by kernel_rfl) (by kernel_rfl) (.cons ?r5_0 (.cons ?r5_1 (.cons ?r5_2 (.cons ?r5_3 (.cons ?r5_4 (.cons ?r5_5 (.cons ?r5_6 (.cons ?r5_7 (.cons ?r5_8 (.cons ?r5_9 (.cons ?r5_10 .nil))))))))))) ?r5_fin
        case r5_0 =>
          intro wq hbw st  K hK
          have KQ := KW.out.trans (hbw.mono KW.out.size)
          simp only [Act.put, List.setIfInBounds_toArray, List.set_cons_zero, List.set_cons_succ] at hK ⊢
          unfold opStep
          rw [if_pos (by rfl)]
          go_simp
          exact hK.out _ _ (Below.refl _ _) rfl _ rfl
        case r5_1 =>
          intro wq hbw st  K hK
          have KQ := KW.out.trans (hbw.mono KW.out.size)
          simp only [Act.put, List.setIfInBounds_toArray, List.set_cons_zero, List.set_cons_succ] at hK ⊢
          unfold opStep
          rw [if_pos (by rfl)]
          go_simp
          exact hK.out _ _ (Below.refl _ _) rfl _ rfl
        case r5_2 =>
          intro wq hbw st  K hK
          have KQ := KW.out.trans (hbw.mono KW.out.size)
          simp only [Act.put, List.setIfInBounds_toArray, List.set_cons_zero, List.set_cons_succ] at hK ⊢
          unfold opStep
          rw [if_pos (by rfl)]
          go_simp
          exact hK.out _ _ (Below.refl _ _) rfl _ rfl
        case r5_3 =>
          intro wq hbw st  K hK
          have KQ := KW.out.trans (hbw.mono KW.out.size)
          simp only [Act.put, List.setIfInBounds_toArray, List.set_cons_zero, List.set_cons_succ] at hK ⊢
          unfold opStep
          rw [if_pos (by rfl)]
          have dd := Lib.hid (HN.out.1 wq KQ)
          have d0 := dd.out.1
          have d1 := dd.out.2.1
          have d2 := dd.out.2.2.1
          have d3 := dd.out.2.2.2.1
          have d4 := dd.out.2.2.2.2.1
          have d5 := dd.out.2.2.2.2.2
          go_simp
          exact hK.out _ _ (Below.refl _ _) rfl _ rfl
        case r5_4 =>
          intro wq hbw st  K hK
          have KQ := KW.out.trans (hbw.mono KW.out.size)
          simp only [Act.put, List.setIfInBounds_toArray, List.set_cons_zero, List.set_cons_succ] at hK ⊢
          unfold opStep
          rw [if_pos (by rfl)]
          go_simp
          have hpc := rupdate_any _ x wq ⟨_, _, rfl, HN.out.2.1.keep KQ, HN.out.2.2.keep KQ⟩
          rw [P1.out] at hpc
          refine hpc.mono ?_
          rintro e wz ⟨rfl, hbz⟩
          go_simp
          exact hK.out _ _ hbz rfl _ rfl
        case r5_5 =>
          intro wq hbw st  K hK
          have KQ := KW.out.trans (hbw.mono KW.out.size)
          simp only [Act.put, List.setIfInBounds_toArray, List.set_cons_zero, List.set_cons_succ] at hK ⊢
          unfold opStep
          rw [if_pos (by rfl)]
          go_simp
          exact hK.out _ _ (Below.refl _ _) rfl _ rfl
        case r5_6 =>
          intro wq hbw st  K hK
          have KQ := KW.out.trans (hbw.mono KW.out.size)
          simp only [Act.put, List.setIfInBounds_toArray, List.set_cons_zero, List.set_cons_succ] at hK ⊢
          unfold opStep
          rw [if_pos (by rfl)]
          go_simp
          exact hK.out _ _ (Below.refl _ _) rfl _ rfl
        case r5_7 =>
          intro wq hbw st  K hK
          have KQ := KW.out.trans (hbw.mono KW.out.size)
          simp only [Act.put, List.setIfInBounds_toArray, List.set_cons_zero, List.set_cons_succ] at hK ⊢
          unfold opStep
          rw [if_pos (by rfl)]
          go_simp
          exact hK.out _ _ (Below.refl _ _) rfl _ rfl
        case r5_8 =>
          intro wq hbw st  K hK
          have KQ := KW.out.trans (hbw.mono KW.out.size)
          simp only [Act.put, List.setIfInBounds_toArray, List.set_cons_zero, List.set_cons_succ] at hK ⊢
          unfold opStep
          rw [if_pos (by rfl)]
          have dd := Lib.hid (HN2.out.1 wq KQ)
          have d0 := dd.out.1
          have d1 := dd.out.2.1
          have d2 := dd.out.2.2.1
          have d3 := dd.out.2.2.2.1
          have d4 := dd.out.2.2.2.2.1
          have d5 := dd.out.2.2.2.2.2
          go_simp
          exact hK.out _ _ (Below.refl _ _) rfl _ rfl
        case r5_9 =>
          intro wq hbw st  K hK
          have KQ := KW.out.trans (hbw.mono KW.out.size)
          simp only [Act.put, List.setIfInBounds_toArray, List.set_cons_zero, List.set_cons_succ] at hK ⊢
          unfold opStep
          rw [if_pos (by rfl)]
          go_simp
          have hpc := rupdate_any _ y wq ⟨_, _, rfl, HN2.out.2.1.keep KQ, HN2.out.2.2.keep KQ⟩
          rw [P2.out] at hpc
          refine hpc.mono ?_
          rintro e wz ⟨rfl, hbz⟩
          go_simp
          exact hK.out _ _ hbz rfl _ rfl
        case r5_10 =>
          intro wq hbw st  K hK
          have KQ := KW.out.trans (hbw.mono KW.out.size)
          simp only [Act.put, List.setIfInBounds_toArray, List.set_cons_zero, List.set_cons_succ] at hK ⊢
          unfold opStep
          rw [if_pos (by rfl)]
          go_simp
          exact hK.out _ _ (Below.refl _ _) rfl _ rfl
        case r5_fin =>
          intro wq hbw
          try simp only [FinAll]
          simp only [Act.put, List.setIfInBounds_toArray, List.set_cons_zero, List.set_cons_succ]
          replace KW := Lib.hid (KW.out.trans (hbw.mono KW.out.size))
          clear hbw
          by_cases hbe : begO x = begO y
          · have E9 := Lib.hid (bne_f hbe)
            have HE := Lib.hid (HKX.out HAB.out HUU.out hbe)
            clear hbe
            go_upto_region 7 with fail
            refine region_left [.is (.slice (some ⟨b, off, none⟩) h.length cap), .is (.int .i64 (i : Int)), .is (.pointer (some ⟨b, off + i * 6, none⟩)), .is (.pointer (some ⟨b, off + i * 6 + 2, none⟩)), .is (.int .i64 (begO x)), .is (.slice (some ⟨b, off, none⟩) h.length cap), .is (.int .i64 (k : Int)), .is (.pointer (some ⟨b, off + k * 6, none⟩)), .is (.pointer (some ⟨b, off + k * 6 + 2, none⟩)), .is (.int .i64 (begO y)), .is (.bool false)] (by kernel_rfl) rfl (by kernel_rfl) (by kernel_rfl) (.cons ?r1_0 (.cons ?r1_1 (.cons ?r1_2 (.cons ?r1_3 (.cons ?r1_4 (.cons ?r1_5 (.cons ?r1_6 (.cons ?r1_7 (.cons ?r1_8 (.cons ?r1_9 (.cons ?r1_10 .nil))))))))))) ?r1_fin
            case r1_0 =>
              intro wq hbw st  K hK
              have KQ := KW.out.trans (hbw.mono KW.out.size)
              simp only [Act.put, List.setIfInBounds_toArray, List.set_cons_zero, List.set_cons_succ] at hK ⊢
              unfold opStep
              rw [if_pos (by rfl)]
              go_simp
              exact hK.out _ _ (Below.refl _ _) rfl _ rfl
            case r1_1 =>
              intro wq hbw st  K hK
              have KQ := KW.out.trans (hbw.mono KW.out.size)
              simp only [Act.put, List.setIfInBounds_toArray, List.set_cons_zero, List.set_cons_succ] at hK ⊢
              unfold opStep
              rw [if_pos (by rfl)]
              go_simp
              exact hK.out _ _ (Below.refl _ _) rfl _ rfl
            case r1_2 =>
              intro wq hbw st  K hK
              have KQ := KW.out.trans (hbw.mono KW.out.size)
              simp only [Act.put, List.setIfInBounds_toArray, List.set_cons_zero, List.set_cons_succ] at hK ⊢
              unfold opStep
              rw [if_pos (by rfl)]
              go_simp
              exact hK.out _ _ (Below.refl _ _) rfl _ rfl
            case r1_3 =>
              intro wq hbw st  K hK
              have KQ := KW.out.trans (hbw.mono KW.out.size)
              simp only [Act.put, List.setIfInBounds_toArray, List.set_cons_zero, List.set_cons_succ] at hK ⊢
              unfold opStep
              rw [if_pos (by rfl)]
              go_simp
              exact hK.out _ _ (Below.refl _ _) rfl _ rfl
            case r1_4 =>
              intro wq hbw st  K hK
              have KQ := KW.out.trans (hbw.mono KW.out.size)
              simp only [Act.put, List.setIfInBounds_toArray, List.set_cons_zero, List.set_cons_succ] at hK ⊢
              unfold opStep
              rw [if_pos (by rfl)]
              have d2 := (HN.out.1 wq KQ).2.2.1
              go_simp
              exact hK.out _ _ (Below.refl _ _) rfl _ rfl
            case r1_5 =>
              intro wq hbw st  K hK
              have KQ := KW.out.trans (hbw.mono KW.out.size)
              simp only [Act.put, List.setIfInBounds_toArray, List.set_cons_zero, List.set_cons_succ] at hK ⊢
              unfold opStep
              rw [if_pos (by rfl)]
              go_simp
              exact hK.out _ _ (Below.refl _ _) rfl _ rfl
            case r1_6 =>
              intro wq hbw st  K hK
              have KQ := KW.out.trans (hbw.mono KW.out.size)
              simp only [Act.put, List.setIfInBounds_toArray, List.set_cons_zero, List.set_cons_succ] at hK ⊢
              unfold opStep
              rw [if_pos (by rfl)]
              go_simp
              exact hK.out _ _ (Below.refl _ _) rfl _ rfl
            case r1_7 =>
              intro wq hbw st  K hK
              have KQ := KW.out.trans (hbw.mono KW.out.size)
              simp only [Act.put, List.setIfInBounds_toArray, List.set_cons_zero, List.set_cons_succ] at hK ⊢
              unfold opStep
              rw [if_pos (by rfl)]
              go_simp
              exact hK.out _ _ (Below.refl _ _) rfl _ rfl
            case r1_8 =>
              intro wq hbw st  K hK
              have KQ := KW.out.trans (hbw.mono KW.out.size)
              simp only [Act.put, List.setIfInBounds_toArray, List.set_cons_zero, List.set_cons_succ] at hK ⊢
              unfold opStep
              rw [if_pos (by rfl)]
              go_simp
              exact hK.out _ _ (Below.refl _ _) rfl _ rfl
            case r1_9 =>
              intro wq hbw st  K hK
              have KQ := KW.out.trans (hbw.mono KW.out.size)
              simp only [Act.put, List.setIfInBounds_toArray, List.set_cons_zero, List.set_cons_succ] at hK ⊢
              unfold opStep
              rw [if_pos (by rfl)]
              have d2 := (HN2.out.1 wq KQ).2.2.1
              go_simp
              exact hK.out _ _ (Below.refl _ _) rfl _ rfl
            case r1_10 =>
              intro wq hbw st  K hK
              have KQ := KW.out.trans (hbw.mono KW.out.size)
              simp only [Act.put, List.setIfInBounds_toArray, List.set_cons_zero, List.set_cons_succ] at hK ⊢
              unfold opStep
              rw [if_pos (by rfl)]
              have e9 := E9.out
              go_simp
              exact hK.out _ _ (Below.refl _ _) rfl _ rfl
            case r1_fin =>
              intro wq hbw
              try simp only [FinAll]
              simp only [Act.put, List.setIfInBounds_toArray, List.set_cons_zero, List.set_cons_succ]
              replace KW := Lib.hid (KW.out.trans (hbw.mono KW.out.size))
              clear hbw
              by_cases hik : i < k
              · have HE2 := Lib.hid (HE.out.trans (decide_eq_true hik))
                have hiki : (i : Int) < (k : Int) := by omega
                clear hik
                go_wp2
                go_ret
                exact ⟨ret_bool HE2.out.symm, KW.out⟩
              · have HE2 := Lib.hid (HE.out.trans (decide_eq_false hik))
                have hiki : ¬ (i : Int) < (k : Int) := by omega
                clear hik
                go_wp2
                go_ret
                exact ⟨ret_bool HE2.out.symm, KW.out⟩
          · have E9 := Lib.hid (bne_t hbe)
            have HE := Lib.hid (HKB.out HAB.out HUU.out hbe)
            clear hbe
            go_upto_region 7 with fail
            refine region_left [.is (.slice (some ⟨b, off, none⟩) h.length cap), .is (.int .i64 (i : Int)), .is (.pointer (some ⟨b, off + i * 6, none⟩)), .is (.pointer (some ⟨b, off + i * 6 + 2, none⟩)), .is (.int .i64 (begO x)), .is (.slice (some ⟨b, off, none⟩) h.length cap), .is (.int .i64 (k : Int)), .is (.pointer (some ⟨b, off + k * 6, none⟩)), .is (.pointer (some ⟨b, off + k * 6 + 2, none⟩)), .is (.int .i64 (begO y)), .is (.bool true)] (by kernel_rfl) rfl (by kernel_rfl) (by kernel_rfl) (.cons ?r4_0 (.cons ?r4_1 (.cons ?r4_2 (.cons ?r4_3 (.cons ?r4_4 (.cons ?r4_5 (.cons ?r4_6 (.cons ?r4_7 (.cons ?r4_8 (.cons ?r4_9 (.cons ?r4_10 .nil))))))))))) ?r4_fin
            case r4_0 =>
              intro wq hbw st  K hK
              have KQ := KW.out.trans (hbw.mono KW.out.size)
              simp only [Act.put, List.setIfInBounds_toArray, List.set_cons_zero, List.set_cons_succ] at hK ⊢
              unfold opStep
              rw [if_pos (by rfl)]
              go_simp
              exact hK.out _ _ (Below.refl _ _) rfl _ rfl
            case r4_1 =>
              intro wq hbw st  K hK
              have KQ := KW.out.trans (hbw.mono KW.out.size)
              simp only [Act.put, List.setIfInBounds_toArray, List.set_cons_zero, List.set_cons_succ] at hK ⊢
              unfold opStep
              rw [if_pos (by rfl)]
              go_simp
              exact hK.out _ _ (Below.refl _ _) rfl _ rfl
            case r4_2 =>
              intro wq hbw st  K hK
              have KQ := KW.out.trans (hbw.mono KW.out.size)
              simp only [Act.put, List.setIfInBounds_toArray, List.set_cons_zero, List.set_cons_succ] at hK ⊢
              unfold opStep
              rw [if_pos (by rfl)]
              go_simp
              exact hK.out _ _ (Below.refl _ _) rfl _ rfl
            case r4_3 =>
              intro wq hbw st  K hK
              have KQ := KW.out.trans (hbw.mono KW.out.size)
              simp only [Act.put, List.setIfInBounds_toArray, List.set_cons_zero, List.set_cons_succ] at hK ⊢
              unfold opStep
              rw [if_pos (by rfl)]
              go_simp
              exact hK.out _ _ (Below.refl _ _) rfl _ rfl
            case r4_4 =>
              intro wq hbw st  K hK
              have KQ := KW.out.trans (hbw.mono KW.out.size)
              simp only [Act.put, List.setIfInBounds_toArray, List.set_cons_zero, List.set_cons_succ] at hK ⊢
              unfold opStep
              rw [if_pos (by rfl)]
              have d2 := (HN.out.1 wq KQ).2.2.1
              go_simp
              exact hK.out _ _ (Below.refl _ _) rfl _ rfl
            case r4_5 =>
              intro wq hbw st  K hK
              have KQ := KW.out.trans (hbw.mono KW.out.size)
              simp only [Act.put, List.setIfInBounds_toArray, List.set_cons_zero, List.set_cons_succ] at hK ⊢
              unfold opStep
              rw [if_pos (by rfl)]
              go_simp
              exact hK.out _ _ (Below.refl _ _) rfl _ rfl
            case r4_6 =>
              intro wq hbw st  K hK
              have KQ := KW.out.trans (hbw.mono KW.out.size)
              simp only [Act.put, List.setIfInBounds_toArray, List.set_cons_zero, List.set_cons_succ] at hK ⊢
              unfold opStep
              rw [if_pos (by rfl)]
              go_simp
              exact hK.out _ _ (Below.refl _ _) rfl _ rfl
            case r4_7 =>
              intro wq hbw st  K hK
              have KQ := KW.out.trans (hbw.mono KW.out.size)
              simp only [Act.put, List.setIfInBounds_toArray, List.set_cons_zero, List.set_cons_succ] at hK ⊢
              unfold opStep
              rw [if_pos (by rfl)]
              go_simp
              exact hK.out _ _ (Below.refl _ _) rfl _ rfl
            case r4_8 =>
              intro wq hbw st  K hK
              have KQ := KW.out.trans (hbw.mono KW.out.size)
              simp only [Act.put, List.setIfInBounds_toArray, List.set_cons_zero, List.set_cons_succ] at hK ⊢
              unfold opStep
              rw [if_pos (by rfl)]
              go_simp
              exact hK.out _ _ (Below.refl _ _) rfl _ rfl
            case r4_9 =>
              intro wq hbw st  K hK
              have KQ := KW.out.trans (hbw.mono KW.out.size)
              simp only [Act.put, List.setIfInBounds_toArray, List.set_cons_zero, List.set_cons_succ] at hK ⊢
              unfold opStep
              rw [if_pos (by rfl)]
              have d2 := (HN2.out.1 wq KQ).2.2.1
              go_simp
              exact hK.out _ _ (Below.refl _ _) rfl _ rfl
            case r4_10 =>
              intro wq hbw st  K hK
              have KQ := KW.out.trans (hbw.mono KW.out.size)
              simp only [Act.put, List.setIfInBounds_toArray, List.set_cons_zero, List.set_cons_succ] at hK ⊢
              unfold opStep
              rw [if_pos (by rfl)]
              have e9 := E9.out
              go_simp
              exact hK.out _ _ (Below.refl _ _) rfl _ rfl
            case r4_fin =>
              intro wq hbw
              try simp only [FinAll]
              simp only [Act.put, List.setIfInBounds_toArray, List.set_cons_zero, List.set_cons_succ]
              replace KW := Lib.hid (KW.out.trans (hbw.mono KW.out.size))
              clear hbw
              by_cases hlt : begO x < begO y
              · have E8 := Lib.hid (id hlt)
                have HE2 := Lib.hid (HE.out.trans (decide_eq_true hlt))
                clear hlt
                go_upto_region 8 with fail
                refine region_left [.is (.slice (some ⟨b, off, none⟩) h.length cap), .is (.int .i64 (i : Int)), .is (.pointer (some ⟨b, off + i * 6, none⟩)), .is (.pointer (some ⟨b, off + i * 6 + 2, none⟩)), .is (.int .i64 (begO x)), .is (.slice (some ⟨b, off, none⟩) h.length cap), .is (.int .i64 (k : Int)), .is (.pointer (some ⟨b, off + k * 6, none⟩)), .is (.pointer (some ⟨b, off + k * 6 + 2, none⟩)), .is (.int .i64 (begO y)), .is (.bool true), .is (.bool true)] (by kernel_rfl) rfl (by kernel_rfl) (by kernel_rfl) (.cons ?r2_0 (.cons ?r2_1 (.cons ?r2_2 (.cons ?r2_3 (.cons ?r2_4 (.cons ?r2_5 (.cons ?r2_6 (.cons ?r2_7 (.cons ?r2_8 (.cons ?r2_9 (.cons ?r2_10 (.cons ?r2_11 .nil)))))))))))) ?r2_fin
                case r2_0 =>
                  intro wq hbw st  K hK
                  have KQ := KW.out.trans (hbw.mono KW.out.size)
                  simp only [Act.put, List.setIfInBounds_toArray, List.set_cons_zero, List.set_cons_succ] at hK ⊢
                  unfold opStep
                  rw [if_pos (by rfl)]
                  go_simp
                  exact hK.out _ _ (Below.refl _ _) rfl _ rfl
                case r2_1 =>
                  intro wq hbw st  K hK
                  have KQ := KW.out.trans (hbw.mono KW.out.size)
                  simp only [Act.put, List.setIfInBounds_toArray, List.set_cons_zero, List.set_cons_succ] at hK ⊢
                  unfold opStep
                  rw [if_pos (by rfl)]
                  go_simp
                  exact hK.out _ _ (Below.refl _ _) rfl _ rfl
                case r2_2 =>
                  intro wq hbw st  K hK
                  have KQ := KW.out.trans (hbw.mono KW.out.size)
                  simp only [Act.put, List.setIfInBounds_toArray, List.set_cons_zero, List.set_cons_succ] at hK ⊢
                  unfold opStep
                  rw [if_pos (by rfl)]
                  go_simp
                  exact hK.out _ _ (Below.refl _ _) rfl _ rfl
                case r2_3 =>
                  intro wq hbw st  K hK
                  have KQ := KW.out.trans (hbw.mono KW.out.size)
                  simp only [Act.put, List.setIfInBounds_toArray, List.set_cons_zero, List.set_cons_succ] at hK ⊢
                  unfold opStep
                  rw [if_pos (by rfl)]
                  go_simp
                  exact hK.out _ _ (Below.refl _ _) rfl _ rfl
                case r2_4 =>
                  intro wq hbw st  K hK
                  have KQ := KW.out.trans (hbw.mono KW.out.size)
                  simp only [Act.put, List.setIfInBounds_toArray, List.set_cons_zero, List.set_cons_succ] at hK ⊢
                  unfold opStep
                  rw [if_pos (by rfl)]
                  have d2 := (HN.out.1 wq KQ).2.2.1
                  go_simp
                  exact hK.out _ _ (Below.refl _ _) rfl _ rfl
                case r2_5 =>
                  intro wq hbw st  K hK
                  have KQ := KW.out.trans (hbw.mono KW.out.size)
                  simp only [Act.put, List.setIfInBounds_toArray, List.set_cons_zero, List.set_cons_succ] at hK ⊢
                  unfold opStep
                  rw [if_pos (by rfl)]
                  go_simp
                  exact hK.out _ _ (Below.refl _ _) rfl _ rfl
                case r2_6 =>
                  intro wq hbw st  K hK
                  have KQ := KW.out.trans (hbw.mono KW.out.size)
                  simp only [Act.put, List.setIfInBounds_toArray, List.set_cons_zero, List.set_cons_succ] at hK ⊢
                  unfold opStep
                  rw [if_pos (by rfl)]
                  go_simp
                  exact hK.out _ _ (Below.refl _ _) rfl _ rfl
                case r2_7 =>
                  intro wq hbw st  K hK
                  have KQ := KW.out.trans (hbw.mono KW.out.size)
                  simp only [Act.put, List.setIfInBounds_toArray, List.set_cons_zero, List.set_cons_succ] at hK ⊢
                  unfold opStep
                  rw [if_pos (by rfl)]
                  go_simp
                  exact hK.out _ _ (Below.refl _ _) rfl _ rfl
                case r2_8 =>
                  intro wq hbw st  K hK
                  have KQ := KW.out.trans (hbw.mono KW.out.size)
                  simp only [Act.put, List.setIfInBounds_toArray, List.set_cons_zero, List.set_cons_succ] at hK ⊢
                  unfold opStep
                  rw [if_pos (by rfl)]
                  go_simp
                  exact hK.out _ _ (Below.refl _ _) rfl _ rfl
                case r2_9 =>
                  intro wq hbw st  K hK
                  have KQ := KW.out.trans (hbw.mono KW.out.size)
                  simp only [Act.put, List.setIfInBounds_toArray, List.set_cons_zero, List.set_cons_succ] at hK ⊢
                  unfold opStep
                  rw [if_pos (by rfl)]
                  have d2 := (HN2.out.1 wq KQ).2.2.1
                  go_simp
                  exact hK.out _ _ (Below.refl _ _) rfl _ rfl
                case r2_10 =>
                  intro wq hbw st  K hK
                  have KQ := KW.out.trans (hbw.mono KW.out.size)
                  simp only [Act.put, List.setIfInBounds_toArray, List.set_cons_zero, List.set_cons_succ] at hK ⊢
                  unfold opStep
                  rw [if_pos (by rfl)]
                  have e9 := E8.out
                  go_simp
                  exact hK.out _ _ (Below.refl _ _) rfl _ rfl
                case r2_11 =>
                  intro wq hbw st  K hK
                  have KQ := KW.out.trans (hbw.mono KW.out.size)
                  simp only [Act.put, List.setIfInBounds_toArray, List.set_cons_zero, List.set_cons_succ] at hK ⊢
                  unfold opStep
                  rw [if_pos (by rfl)]
                  go_simp
                  exact hK.out _ _ (Below.refl _ _) rfl _ rfl
                case r2_fin =>
                  intro wq hbw
                  try simp only [FinAll]
                  simp only [Act.put, List.setIfInBounds_toArray, List.set_cons_zero, List.set_cons_succ]
                  replace KW := Lib.hid (KW.out.trans (hbw.mono KW.out.size))
                  clear hbw
                  go_wp2
                  go_ret
                  exact ⟨ret_bool HE2.out.symm, KW.out⟩
              · have E8 := Lib.hid (id hlt)
                have HE2 := Lib.hid (HE.out.trans (decide_eq_false hlt))
                clear hlt
                go_upto_region 8 with fail
                refine region_left [.is (.slice (some ⟨b, off, none⟩) h.length cap), .is (.int .i64 (i : Int)), .is (.pointer (some ⟨b, off + i * 6, none⟩)), .is (.pointer (some ⟨b, off + i * 6 + 2, none⟩)), .is (.int .i64 (begO x)), .is (.slice (some ⟨b, off, none⟩) h.length cap), .is (.int .i64 (k : Int)), .is (.pointer (some ⟨b, off + k * 6, none⟩)), .is (.pointer (some ⟨b, off + k * 6 + 2, none⟩)), .is (.int .i64 (begO y)), .is (.bool false), .is (.bool false)] (by kernel_rfl) rfl (by kernel_rfl) (by kernel_rfl) (.cons ?r3_0 (.cons ?r3_1 (.cons ?r3_2 (.cons ?r3_3 (.cons ?r3_4 (.cons ?r3_5 (.cons ?r3_6 (.cons ?r3_7 (.cons ?r3_8 (.cons ?r3_9 (.cons ?r3_10 (.cons ?r3_11 .nil)))))))))))) ?r3_fin
                case r3_0 =>
                  intro wq hbw st  K hK
                  have KQ := KW.out.trans (hbw.mono KW.out.size)
                  simp only [Act.put, List.setIfInBounds_toArray, List.set_cons_zero, List.set_cons_succ] at hK ⊢
                  unfold opStep
                  rw [if_pos (by rfl)]
                  go_simp
                  exact hK.out _ _ (Below.refl _ _) rfl _ rfl
                case r3_1 =>
                  intro wq hbw st  K hK
                  have KQ := KW.out.trans (hbw.mono KW.out.size)
                  simp only [Act.put, List.setIfInBounds_toArray, List.set_cons_zero, List.set_cons_succ] at hK ⊢
                  unfold opStep
                  rw [if_pos (by rfl)]
                  go_simp
                  exact hK.out _ _ (Below.refl _ _) rfl _ rfl
                case r3_2 =>
                  intro wq hbw st  K hK
                  have KQ := KW.out.trans (hbw.mono KW.out.size)
                  simp only [Act.put, List.setIfInBounds_toArray, List.set_cons_zero, List.set_cons_succ] at hK ⊢
                  unfold opStep
                  rw [if_pos (by rfl)]
                  go_simp
                  exact hK.out _ _ (Below.refl _ _) rfl _ rfl
                case r3_3 =>
                  intro wq hbw st  K hK
                  have KQ := KW.out.trans (hbw.mono KW.out.size)
                  simp only [Act.put, List.setIfInBounds_toArray, List.set_cons_zero, List.set_cons_succ] at hK ⊢
                  unfold opStep
                  rw [if_pos (by rfl)]
                  go_simp
                  exact hK.out _ _ (Below.refl _ _) rfl _ rfl
                case r3_4 =>
                  intro wq hbw st  K hK
                  have KQ := KW.out.trans (hbw.mono KW.out.size)
                  simp only [Act.put, List.setIfInBounds_toArray, List.set_cons_zero, List.set_cons_succ] at hK ⊢
                  unfold opStep
                  rw [if_pos (by rfl)]
                  have d2 := (HN.out.1 wq KQ).2.2.1
                  go_simp
                  exact hK.out _ _ (Below.refl _ _) rfl _ rfl
                case r3_5 =>
                  intro wq hbw st  K hK
                  have KQ := KW.out.trans (hbw.mono KW.out.size)
                  simp only [Act.put, List.setIfInBounds_toArray, List.set_cons_zero, List.set_cons_succ] at hK ⊢
                  unfold opStep
                  rw [if_pos (by rfl)]
                  go_simp
                  exact hK.out _ _ (Below.refl _ _) rfl _ rfl
                case r3_6 =>
                  intro wq hbw st  K hK
                  have KQ := KW.out.trans (hbw.mono KW.out.size)
                  simp only [Act.put, List.setIfInBounds_toArray, List.set_cons_zero, List.set_cons_succ] at hK ⊢
                  unfold opStep
                  rw [if_pos (by rfl)]
                  go_simp
                  exact hK.out _ _ (Below.refl _ _) rfl _ rfl
                case r3_7 =>
                  intro wq hbw st  K hK
                  have KQ := KW.out.trans (hbw.mono KW.out.size)
                  simp only [Act.put, List.setIfInBounds_toArray, List.set_cons_zero, List.set_cons_succ] at hK ⊢
                  unfold opStep
                  rw [if_pos (by rfl)]
                  go_simp
                  exact hK.out _ _ (Below.refl _ _) rfl _ rfl
                case r3_8 =>
                  intro wq hbw st  K hK
                  have KQ := KW.out.trans (hbw.mono KW.out.size)
                  simp only [Act.put, List.setIfInBounds_toArray, List.set_cons_zero, List.set_cons_succ] at hK ⊢
                  unfold opStep
                  rw [if_pos (by rfl)]
                  go_simp
                  exact hK.out _ _ (Below.refl _ _) rfl _ rfl
                case r3_9 =>
                  intro wq hbw st  K hK
                  have KQ := KW.out.trans (hbw.mono KW.out.size)
                  simp only [Act.put, List.setIfInBounds_toArray, List.set_cons_zero, List.set_cons_succ] at hK ⊢
                  unfold opStep
                  rw [if_pos (by rfl)]
                  have d2 := (HN2.out.1 wq KQ).2.2.1
                  go_simp
                  exact hK.out _ _ (Below.refl _ _) rfl _ rfl
                case r3_10 =>
                  intro wq hbw st  K hK
                  have KQ := KW.out.trans (hbw.mono KW.out.size)
                  simp only [Act.put, List.setIfInBounds_toArray, List.set_cons_zero, List.set_cons_succ] at hK ⊢
                  unfold opStep
                  rw [if_pos (by rfl)]
                  have e9 := E8.out
                  go_simp
                  exact hK.out _ _ (Below.refl _ _) rfl _ rfl
                case r3_11 =>
                  intro wq hbw st  K hK
                  have KQ := KW.out.trans (hbw.mono KW.out.size)
                  simp only [Act.put, List.setIfInBounds_toArray, List.set_cons_zero, List.set_cons_succ] at hK ⊢
                  unfold opStep
                  rw [if_pos (by rfl)]
                  go_simp
                  exact hK.out _ _ (Below.refl _ _) rfl _ rfl
                case r3_fin =>
                  intro wq hbw
                  try simp only [FinAll]
                  simp only [Act.put, List.setIfInBounds_toArray, List.set_cons_zero, List.set_cons_succ]
                  replace KW := Lib.hid (KW.out.trans (hbw.mono KW.out.size))
                  clear hbw
                  go_wp2
                  go_ret
                  exact ⟨ret_bool HE2.out.symm, KW.out⟩
      | true =>
        have P1 := Lib.hid h1
        have P2 := Lib.hid h2
        have HE := Lib.hid (HKK.out HAB.out false true h1 h2 (by decide))
        clear h1 h2
        go_upto_region 5 with fail
        refine region_left [.is (.slice (some ⟨b, off, none⟩) h.length cap), .is (.int .i64 (i : Int)), .is (.pointer (some ⟨b, off + i * 6, none⟩)), .is (.agg #[.int .i64 (cliO x), .int .i64 (kindO x), .int .i64 (begO x), .int .i64 (endO x), .slice a4 (addO x).length c4, .slice a5 (seeO x).length c5]), .is (.bool false), .is (.slice (some ⟨b, off, none⟩) h.length cap), .is (.int .i64 (k : Int)), .is (.pointer (some ⟨b, off + k * 6, none⟩)), .is (.agg #[.int .i64 (cliO y), .int .i64 (kindO y), .int .i64 (begO y), .int .i64 (endO y), .slice d4 (addO y).length k4, .slice d5 (seeO y).length k5]), .is (.bool true), .is (.bool true)] (by kernel_rfl) rfl (by kernel_rfl) (by kernel_rfl) (.cons ?r6_0 (.cons ?r6_1 (.cons ?r6_2 (.cons ?r6_3 (.cons ?r6_4 (.cons ?r6_5 (.cons ?r6_6 (.cons ?r6_7 (.cons ?r6_8 (.cons ?r6_9 (.cons ?r6_10 .nil))))))))))) ?r6_fin
        case r6_0 =>
          intro wq hbw st  K hK
          have KQ := KW.out.trans (hbw.mono KW.out.size)
          simp only [Act.put, List.setIfInBounds_toArray, List.set_cons_zero, List.set_cons_succ] at hK ⊢
          unfold opStep
          rw [if_pos (by rfl)]
          go_simp
          exact hK.out _ _ (Below.refl _ _) rfl _ rfl
        case r6_1 =>
          intro wq hbw st  K hK
          have KQ := KW.out.trans (hbw.mono KW.out.size)
          simp only [Act.put, List.setIfInBounds_toArray, List.set_cons_zero, List.set_cons_succ] at hK ⊢
          unfold opStep
          rw [if_pos (by rfl)]
          go_simp
          exact hK.out _ _ (Below.refl _ _) rfl _ rfl
        case r6_2 =>
          intro wq hbw st  K hK
          have KQ := KW.out.trans (hbw.mono KW.out.size)
          simp only [Act.put, List.setIfInBounds_toArray, List.set_cons_zero, List.set_cons_succ] at hK ⊢
          unfold opStep
          rw [if_pos (by rfl)]
          go_simp
          exact hK.out _ _ (Below.refl _ _) rfl _ rfl
        case r6_3 =>
          intro wq hbw st  K hK
          have KQ := KW.out.trans (hbw.mono KW.out.size)
          simp only [Act.put, List.setIfInBounds_toArray, List.set_cons_zero, List.set_cons_succ] at hK ⊢
          unfold opStep
          rw [if_pos (by rfl)]
          have dd := Lib.hid (HN.out.1 wq KQ)
          have d0 := dd.out.1
          have d1 := dd.out.2.1
          have d2 := dd.out.2.2.1
          have d3 := dd.out.2.2.2.1
          have d4 := dd.out.2.2.2.2.1
          have d5 := dd.out.2.2.2.2.2
          go_simp
          exact hK.out _ _ (Below.refl _ _) rfl _ rfl
        case r6_4 =>
          intro wq hbw st  K hK
          have KQ := KW.out.trans (hbw.mono KW.out.size)
          simp only [Act.put, List.setIfInBounds_toArray, List.set_cons_zero, List.set_cons_succ] at hK ⊢
          unfold opStep
          rw [if_pos (by rfl)]
          go_simp
          have hpc := rupdate_any _ x wq ⟨_, _, rfl, HN.out.2.1.keep KQ, HN.out.2.2.keep KQ⟩
          rw [P1.out] at hpc
          refine hpc.mono ?_
          rintro e wz ⟨rfl, hbz⟩
          go_simp
          exact hK.out _ _ hbz rfl _ rfl
        case r6_5 =>
          intro wq hbw st  K hK
          have KQ := KW.out.trans (hbw.mono KW.out.size)
          simp only [Act.put, List.setIfInBounds_toArray, List.set_cons_zero, List.set_cons_succ] at hK ⊢
          unfold opStep
          rw [if_pos (by rfl)]
          go_simp
          exact hK.out _ _ (Below.refl _ _) rfl _ rfl
        case r6_6 =>
          intro wq hbw st  K hK
          have KQ := KW.out.trans (hbw.mono KW.out.size)
          simp only [Act.put, List.setIfInBounds_toArray, List.set_cons_zero, List.set_cons_succ] at hK ⊢
          unfold opStep
          rw [if_pos (by rfl)]
          go_simp
          exact hK.out _ _ (Below.refl _ _) rfl _ rfl
        case r6_7 =>
          intro wq hbw st  K hK
          have KQ := KW.out.trans (hbw.mono KW.out.size)
          simp only [Act.put, List.setIfInBounds_toArray, List.set_cons_zero, List.set_cons_succ] at hK ⊢
          unfold opStep
          rw [if_pos (by rfl)]
          go_simp
          exact hK.out _ _ (Below.refl _ _) rfl _ rfl
        case r6_8 =>
          intro wq hbw st  K hK
          have KQ := KW.out.trans (hbw.mono KW.out.size)
          simp only [Act.put, List.setIfInBounds_toArray, List.set_cons_zero, List.set_cons_succ] at hK ⊢
          unfold opStep
          rw [if_pos (by rfl)]
          have dd := Lib.hid (HN2.out.1 wq KQ)
          have d0 := dd.out.1
          have d1 := dd.out.2.1
          have d2 := dd.out.2.2.1
          have d3 := dd.out.2.2.2.1
          have d4 := dd.out.2.2.2.2.1
          have d5 := dd.out.2.2.2.2.2
          go_simp
          exact hK.out _ _ (Below.refl _ _) rfl _ rfl
        case r6_9 =>
          intro wq hbw st  K hK
          have KQ := KW.out.trans (hbw.mono KW.out.size)
          simp only [Act.put, List.setIfInBounds_toArray, List.set_cons_zero, List.set_cons_succ] at hK ⊢
          unfold opStep
          rw [if_pos (by rfl)]
          go_simp
          have hpc := rupdate_any _ y wq ⟨_, _, rfl, HN2.out.2.1.keep KQ, HN2.out.2.2.keep KQ⟩
          rw [P2.out] at hpc
          refine hpc.mono ?_
          rintro e wz ⟨rfl, hbz⟩
          go_simp
          exact hK.out _ _ hbz rfl _ rfl
        case r6_10 =>
          intro wq hbw st  K hK
          have KQ := KW.out.trans (hbw.mono KW.out.size)
          simp only [Act.put, List.setIfInBounds_toArray, List.set_cons_zero, List.set_cons_succ] at hK ⊢
          unfold opStep
          rw [if_pos (by rfl)]
          go_simp
          exact hK.out _ _ (Below.refl _ _) rfl _ rfl
        case r6_fin =>
          intro wq hbw
          try simp only [FinAll]
          simp only [Act.put, List.setIfInBounds_toArray, List.set_cons_zero, List.set_cons_succ]
          replace KW := Lib.hid (KW.out.trans (hbw.mono KW.out.size))
          clear hbw
          obtain ⟨q0, q1, q2, q3, q4, q5⟩ := HN.out.1 _ KW.out
          go_wp2_with fail
          have hpc := rupdate_any _ x _ ⟨_, _, rfl, HN.out.2.1.keep KW.out, HN.out.2.2.keep KW.out⟩
          rw [P1.out] at hpc
          refine hpc.mono ?_
          rintro e w3 ⟨rfl, hb3⟩
          replace KW := Lib.hid (KW.out.trans (hb3.mono KW.out.size))
          clear hb3 q0 q1 q2 q3 q4 q5
          go_wp2
          go_ret
          exact ⟨ret_bool HE.out.symm, KW.out⟩
    | true =>
      cases h2 : upO y with
      | false =>
        have P1 := Lib.hid h1
        have P2 := Lib.hid h2
        have HE := Lib.hid (HKK.out HAB.out true false h1 h2 (by decide))
        clear h1 h2
        go_upto_region 5 with fail
        refine region_left [.is (.slice (some ⟨b, off, none⟩) h.length cap), .is (.int .i64 (i : Int)), .is (.pointer (some ⟨b, off + i * 6, none⟩)), .is (.agg #[.int .i64 (cliO x), .int .i64 (kindO x), .int .i64 (begO x), .int .i64 (endO x), .slice a4 (addO x).length c4, .slice a5 (seeO x).length c5]), .is (.bool true), .is (.slice (some ⟨b, off, none⟩) h.length cap), .is (.int .i64 (k : Int)), .is (.pointer (some ⟨b, off + k * 6, none⟩)), .is (.agg #[.int .i64 (cliO y), .int .i64 (kindO y), .int .i64 (begO y), .int .i64 (endO y), .slice d4 (addO y).length k4, .slice d5 (seeO y).length k5]), .is (.bool false), .is (.bool true)] (by kernel_rfl) rfl (by kernel_rfl) (by kernel_rfl) (.cons ?r7_0 (.cons ?r7_1 (.cons ?r7_2 (.cons ?r7_3 (.cons ?r7_4 (.cons ?r7_5 (.cons ?r7_6 (.cons ?r7_7 (.cons ?r7_8 (.cons ?r7_9 (.cons ?r7_10 .nil))))))))))) ?r7_fin
        case r7_0 =>
          intro wq hbw st  K hK
          have KQ := KW.out.trans (hbw.mono KW.out.size)
          simp only [Act.put, List.setIfInBounds_toArray, List.set_cons_zero, List.set_cons_succ] at hK ⊢
          unfold opStep
          rw [if_pos (by rfl)]
          go_simp
          exact hK.out _ _ (Below.refl _ _) rfl _ rfl
        case r7_1 =>
          intro wq hbw st  K hK
          have KQ := KW.out.trans (hbw.mono KW.out.size)
          simp only [Act.put, List.setIfInBounds_toArray, List.set_cons_zero, List.set_cons_succ] at hK ⊢
          unfold opStep
          rw [if_pos (by rfl)]
          go_simp
          exact hK.out _ _ (Below.refl _ _) rfl _ rfl
        case r7_2 =>
          intro wq hbw st  K hK
          have KQ := KW.out.trans (hbw.mono KW.out.size)
          simp only [Act.put, List.setIfInBounds_toArray, List.set_cons_zero, List.set_cons_succ] at hK ⊢
          unfold opStep
          rw [if_pos (by rfl)]
          go_simp
          exact hK.out _ _ (Below.refl _ _) rfl _ rfl
        case r7_3 =>
          intro wq hbw st  K hK
          have KQ := KW.out.trans (hbw.mono KW.out.size)
          simp only [Act.put, List.setIfInBounds_toArray, List.set_cons_zero, List.set_cons_succ] at hK ⊢
          unfold opStep
          rw [if_pos (by rfl)]
          have dd := Lib.hid (HN.out.1 wq KQ)
          have d0 := dd.out.1
          have d1 := dd.out.2.1
          have d2 := dd.out.2.2.1
          have d3 := dd.out.2.2.2.1
          have d4 := dd.out.2.2.2.2.1
          have d5 := dd.out.2.2.2.2.2
          go_simp
          exact hK.out _ _ (Below.refl _ _) rfl _ rfl
        case r7_4 =>
          intro wq hbw st  K hK
          have KQ := KW.out.trans (hbw.mono KW.out.size)
          simp only [Act.put, List.setIfInBounds_toArray, List.set_cons_zero, List.set_cons_succ] at hK ⊢
          unfold opStep
          rw [if_pos (by rfl)]
          go_simp
          have hpc := rupdate_any _ x wq ⟨_, _, rfl, HN.out.2.1.keep KQ, HN.out.2.2.keep KQ⟩
          rw [P1.out] at hpc
          refine hpc.mono ?_
          rintro e wz ⟨rfl, hbz⟩
          go_simp
          exact hK.out _ _ hbz rfl _ rfl
        case r7_5 =>
          intro wq hbw st  K hK
          have KQ := KW.out.trans (hbw.mono KW.out.size)
          simp only [Act.put, List.setIfInBounds_toArray, List.set_cons_zero, List.set_cons_succ] at hK ⊢
          unfold opStep
          rw [if_pos (by rfl)]
          go_simp
          exact hK.out _ _ (Below.refl _ _) rfl _ rfl
        case r7_6 =>
          intro wq hbw st  K hK
          have KQ := KW.out.trans (hbw.mono KW.out.size)
          simp only [Act.put, List.setIfInBounds_toArray, List.set_cons_zero, List.set_cons_succ] at hK ⊢
          unfold opStep
          rw [if_pos (by rfl)]
          go_simp
          exact hK.out _ _ (Below.refl _ _) rfl _ rfl
        case r7_7 =>
          intro wq hbw st  K hK
          have KQ := KW.out.trans (hbw.mono KW.out.size)
          simp only [Act.put, List.setIfInBounds_toArray, List.set_cons_zero, List.set_cons_succ] at hK ⊢
          unfold opStep
          rw [if_pos (by rfl)]
          go_simp
          exact hK.out _ _ (Below.refl _ _) rfl _ rfl
        case r7_8 =>
          intro wq hbw st  K hK
          have KQ := KW.out.trans (hbw.mono KW.out.size)
          simp only [Act.put, List.setIfInBounds_toArray, List.set_cons_zero, List.set_cons_succ] at hK ⊢
          unfold opStep
          rw [if_pos (by rfl)]
          have dd := Lib.hid (HN2.out.1 wq KQ)
          have d0 := dd.out.1
          have d1 := dd.out.2.1
          have d2 := dd.out.2.2.1
          have d3 := dd.out.2.2.2.1
          have d4 := dd.out.2.2.2.2.1
          have d5 := dd.out.2.2.2.2.2
          go_simp
          exact hK.out _ _ (Below.refl _ _) rfl _ rfl
        case r7_9 =>
          intro wq hbw st  K hK
          have KQ := KW.out.trans (hbw.mono KW.out.size)
          simp only [Act.put, List.setIfInBounds_toArray, List.set_cons_zero, List.set_cons_succ] at hK ⊢
          unfold opStep
          rw [if_pos (by rfl)]
          go_simp
          have hpc := rupdate_any _ y wq ⟨_, _, rfl, HN2.out.2.1.keep KQ, HN2.out.2.2.keep KQ⟩
          rw [P2.out] at hpc
          refine hpc.mono ?_
          rintro e wz ⟨rfl, hbz⟩
          go_simp
          exact hK.out _ _ hbz rfl _ rfl
        case r7_10 =>
          intro wq hbw st  K hK
          have KQ := KW.out.trans (hbw.mono KW.out.size)
          simp only [Act.put, List.setIfInBounds_toArray, List.set_cons_zero, List.set_cons_succ] at hK ⊢
          unfold opStep
          rw [if_pos (by rfl)]
          go_simp
          exact hK.out _ _ (Below.refl _ _) rfl _ rfl
        case r7_fin =>
          intro wq hbw
          try simp only [FinAll]
          simp only [Act.put, List.setIfInBounds_toArray, List.set_cons_zero, List.set_cons_succ]
          replace KW := Lib.hid (KW.out.trans (hbw.mono KW.out.size))
          clear hbw
          obtain ⟨q0, q1, q2, q3, q4, q5⟩ := HN.out.1 _ KW.out
          go_wp2_with fail
          have hpc := rupdate_any _ x _ ⟨_, _, rfl, HN.out.2.1.keep KW.out, HN.out.2.2.keep KW.out⟩
          rw [P1.out] at hpc
          refine hpc.mono ?_
          rintro e w3 ⟨rfl, hb3⟩
          replace KW := Lib.hid (KW.out.trans (hb3.mono KW.out.size))
          clear hb3 q0 q1 q2 q3 q4 q5
          go_wp2
          go_ret
          exact ⟨ret_bool HE.out.symm, KW.out⟩
      | true =>
        have P1 := Lib.hid h1
        have P2 := Lib.hid h2
        have HUU : Hid (upO x = upO y) := Lib.hid (h1.trans h2.symm)
        clear h1 h2
        go_upto_region 5 with fail
        refine region_left [.is (.slice (some ⟨b, off, none⟩) h.length cap), .is (.int .i64 (i : Int)), .is (.pointer (some ⟨b, off + i * 6, none⟩)), .is (.agg #[.int .i64 (cliO x), .int .i64 (kindO x), .int .i64 (begO x), .int .i64 (endO x), .slice a4 (addO x).length c4, .slice a5 (seeO x).length c5]), .is (.bool true), .is (.slice (some ⟨b, off, none⟩) h.length cap), .is (.int .i64 (k : Int)), .is (.pointer (some ⟨b, off + k * 6, none⟩)), .is (.agg #[.int .i64 (cliO y), .int .i64 (kindO y), .int .i64 (begO y), .int .i64 (endO y), .slice d4 (addO y).length k4, .slice d5 (seeO y).length k5]), .is (.bool true), .is (.bool false)] (by kernel_rfl) rfl (by kernel_rfl) (by kernel_rfl) (.cons ?r12_0 (.cons ?r12_1 (.cons ?r12_2 (.cons ?r12_3 (.cons ?r12_4 (.cons ?r12_5 (.cons ?r12_6 (.cons ?r12_7 (.cons ?r12_8 (.cons ?r12_9 (.cons ?r12_10 .nil))))))))))) ?r12_fin
        case r12_0 =>
          intro wq hbw st  K hK
          have KQ := KW.out.trans (hbw.mono KW.out.size)
          simp only [Act.put, List.setIfInBounds_toArray, List.set_cons_zero, List.set_cons_succ] at hK ⊢
          unfold opStep
          rw [if_pos (by rfl)]
          go_simp
          exact hK.out _ _ (Below.refl _ _) rfl _ rfl
        case r12_1 =>
          intro wq hbw st  K hK
          have KQ := KW.out.trans (hbw.mono KW.out.size)
          simp only [Act.put, List.setIfInBounds_toArray, List.set_cons_zero, List.set_cons_succ] at hK ⊢
          unfold opStep
          rw [if_pos (by rfl)]
          go_simp
          exact hK.out _ _ (Below.refl _ _) rfl _ rfl
        case r12_2 =>
          intro wq hbw st  K hK
          have KQ := KW.out.trans (hbw.mono KW.out.size)
          simp only [Act.put, List.setIfInBounds_toArray, List.set_cons_zero, List.set_cons_succ] at hK ⊢
          unfold opStep
          rw [if_pos (by rfl)]
          go_simp
          exact hK.out _ _ (Below.refl _ _) rfl _ rfl
        case r12_3 =>
          intro wq hbw st  K hK
          have KQ := KW.out.trans (hbw.mono KW.out.size)
          simp only [Act.put, List.setIfInBounds_toArray, List.set_cons_zero, List.set_cons_succ] at hK ⊢
          unfold opStep
          rw [if_pos (by rfl)]
          have dd := Lib.hid (HN.out.1 wq KQ)
          have d0 := dd.out.1
          have d1 := dd.out.2.1
          have d2 := dd.out.2.2.1
          have d3 := dd.out.2.2.2.1
          have d4 := dd.out.2.2.2.2.1
          have d5 := dd.out.2.2.2.2.2
          go_simp
          exact hK.out _ _ (Below.refl _ _) rfl _ rfl
        case r12_4 =>
          intro wq hbw st  K hK
          have KQ := KW.out.trans (hbw.mono KW.out.size)
          simp only [Act.put, List.setIfInBounds_toArray, List.set_cons_zero, List.set_cons_succ] at hK ⊢
          unfold opStep
          rw [if_pos (by rfl)]
          go_simp
          have hpc := rupdate_any _ x wq ⟨_, _, rfl, HN.out.2.1.keep KQ, HN.out.2.2.keep KQ⟩
          rw [P1.out] at hpc
          refine hpc.mono ?_
          rintro e wz ⟨rfl, hbz⟩
          go_simp
          exact hK.out _ _ hbz rfl _ rfl
        case r12_5 =>
          intro wq hbw st  K hK
          have KQ := KW.out.trans (hbw.mono KW.out.size)
          simp only [Act.put, List.setIfInBounds_toArray, List.set_cons_zero, List.set_cons_succ] at hK ⊢
          unfold opStep
          rw [if_pos (by rfl)]
          go_simp
          exact hK.out _ _ (Below.refl _ _) rfl _ rfl
        case r12_6 =>
          intro wq hbw st  K hK
          have KQ := KW.out.trans (hbw.mono KW.out.size)
          simp only [Act.put, List.setIfInBounds_toArray, List.set_cons_zero, List.set_cons_succ] at hK ⊢
          unfold opStep
          rw [if_pos (by rfl)]
          go_simp
          exact hK.out _ _ (Below.refl _ _) rfl _ rfl
        case r12_7 =>
          intro wq hbw st  K hK
          have KQ := KW.out.trans (hbw.mono KW.out.size)
          simp only [Act.put, List.setIfInBounds_toArray, List.set_cons_zero, List.set_cons_succ] at hK ⊢
          unfold opStep
          rw [if_pos (by rfl)]
          go_simp
          exact hK.out _ _ (Below.refl _ _) rfl _ rfl
        case r12_8 =>
          intro wq hbw st  K hK
          have KQ := KW.out.trans (hbw.mono KW.out.size)
          simp only [Act.put, List.setIfInBounds_toArray, List.set_cons_zero, List.set_cons_succ] at hK ⊢
          unfold opStep
          rw [if_pos (by rfl)]
          have dd := Lib.hid (HN2.out.1 wq KQ)
          have d0 := dd.out.1
          have d1 := dd.out.2.1
          have d2 := dd.out.2.2.1
          have d3 := dd.out.2.2.2.1
          have d4 := dd.out.2.2.2.2.1
          have d5 := dd.out.2.2.2.2.2
          go_simp
          exact hK.out _ _ (Below.refl _ _) rfl _ rfl
        case r12_9 =>
          intro wq hbw st  K hK
          have KQ := KW.out.trans (hbw.mono KW.out.size)
          simp only [Act.put, List.setIfInBounds_toArray, List.set_cons_zero, List.set_cons_succ] at hK ⊢
          unfold opStep
          rw [if_pos (by rfl)]
          go_simp
          have hpc := rupdate_any _ y wq ⟨_, _, rfl, HN2.out.2.1.keep KQ, HN2.out.2.2.keep KQ⟩
          rw [P2.out] at hpc
          refine hpc.mono ?_
          rintro e wz ⟨rfl, hbz⟩
          go_simp
          exact hK.out _ _ hbz rfl _ rfl
        case r12_10 =>
          intro wq hbw st  K hK
          have KQ := KW.out.trans (hbw.mono KW.out.size)
          simp only [Act.put, List.setIfInBounds_toArray, List.set_cons_zero, List.set_cons_succ] at hK ⊢
          unfold opStep
          rw [if_pos (by rfl)]
          go_simp
          exact hK.out _ _ (Below.refl _ _) rfl _ rfl
        case r12_fin =>
          intro wq hbw
          try simp only [FinAll]
          simp only [Act.put, List.setIfInBounds_toArray, List.set_cons_zero, List.set_cons_succ]
          replace KW := Lib.hid (KW.out.trans (hbw.mono KW.out.size))
          clear hbw
          by_cases hbe : begO x = begO y
          · have E9 := Lib.hid (bne_f hbe)
            have HE := Lib.hid (HKX.out HAB.out HUU.out hbe)
            clear hbe
            go_upto_region 7 with fail
            refine region_left [.is (.slice (some ⟨b, off, none⟩) h.length cap), .is (.int .i64 (i : Int)), .is (.pointer (some ⟨b, off + i * 6, none⟩)), .is (.pointer (some ⟨b, off + i * 6 + 2, none⟩)), .is (.int .i64 (begO x)), .is (.slice (some ⟨b, off, none⟩) h.length cap), .is (.int .i64 (k : Int)), .is (.pointer (some ⟨b, off + k * 6, none⟩)), .is (.pointer (some ⟨b, off + k * 6 + 2, none⟩)), .is (.int .i64 (begO y)), .is (.bool false)] (by kernel_rfl) rfl (by kernel_rfl) (by kernel_rfl) (.cons ?r8_0 (.cons ?r8_1 (.cons ?r8_2 (.cons ?r8_3 (.cons ?r8_4 (.cons ?r8_5 (.cons ?r8_6 (.cons ?r8_7 (.cons ?r8_8 (.cons ?r8_9 (.cons ?r8_10 .nil))))))))))) ?r8_fin
            case r8_0 =>
              intro wq hbw st  K hK
              have KQ := KW.out.trans (hbw.mono KW.out.size)
              simp only [Act.put, List.setIfInBounds_toArray, List.set_cons_zero, List.set_cons_succ] at hK ⊢
              unfold opStep
              rw [if_pos (by rfl)]
              go_simp
              exact hK.out _ _ (Below.refl _ _) rfl _ rfl
            case r8_1 =>
              intro wq hbw st  K hK
              have KQ := KW.out.trans (hbw.mono KW.out.size)
              simp only [Act.put, List.setIfInBounds_toArray, List.set_cons_zero, List.set_cons_succ] at hK ⊢
              unfold opStep
              rw [if_pos (by rfl)]
              go_simp
              exact hK.out _ _ (Below.refl _ _) rfl _ rfl
            case r8_2 =>
              intro wq hbw st  K hK
              have KQ := KW.out.trans (hbw.mono KW.out.size)
              simp only [Act.put, List.setIfInBounds_toArray, List.set_cons_zero, List.set_cons_succ] at hK ⊢
              unfold opStep
              rw [if_pos (by rfl)]
              go_simp
              exact hK.out _ _ (Below.refl _ _) rfl _ rfl
            case r8_3 =>
              intro wq hbw st  K hK
              have KQ := KW.out.trans (hbw.mono KW.out.size)
              simp only [Act.put, List.setIfInBounds_toArray, List.set_cons_zero, List.set_cons_succ] at hK ⊢
              unfold opStep
              rw [if_pos (by rfl)]
              go_simp
              exact hK.out _ _ (Below.refl _ _) rfl _ rfl
            case r8_4 =>
              intro wq hbw st  K hK
              have KQ := KW.out.trans (hbw.mono KW.out.size)
              simp only [Act.put, List.setIfInBounds_toArray, List.set_cons_zero, List.set_cons_succ] at hK ⊢
              unfold opStep
              rw [if_pos (by rfl)]
              have d2 := (HN.out.1 wq KQ).2.2.1
              go_simp
              exact hK.out _ _ (Below.refl _ _) rfl _ rfl
            case r8_5 =>
              intro wq hbw st  K hK
              have KQ := KW.out.trans (hbw.mono KW.out.size)
              simp only [Act.put, List.setIfInBounds_toArray, List.set_cons_zero, List.set_cons_succ] at hK ⊢
              unfold opStep
              rw [if_pos (by rfl)]
              go_simp
              exact hK.out _ _ (Below.refl _ _) rfl _ rfl
            case r8_6 =>
              intro wq hbw st  K hK
              have KQ := KW.out.trans (hbw.mono KW.out.size)
              simp only [Act.put, List.setIfInBounds_toArray, List.set_cons_zero, List.set_cons_succ] at hK ⊢
              unfold opStep
              rw [if_pos (by rfl)]
              go_simp
              exact hK.out _ _ (Below.refl _ _) rfl _ rfl
            case r8_7 =>
              intro wq hbw st  K hK
              have KQ := KW.out.trans (hbw.mono KW.out.size)
              simp only [Act.put, List.setIfInBounds_toArray, List.set_cons_zero, List.set_cons_succ] at hK ⊢
              unfold opStep
              rw [if_pos (by rfl)]
              go_simp
              exact hK.out _ _ (Below.refl _ _) rfl _ rfl
            case r8_8 =>
              intro wq hbw st  K hK
              have KQ := KW.out.trans (hbw.mono KW.out.size)
              simp only [Act.put, List.setIfInBounds_toArray, List.set_cons_zero, List.set_cons_succ] at hK ⊢
              unfold opStep
              rw [if_pos (by rfl)]
              go_simp
              exact hK.out _ _ (Below.refl _ _) rfl _ rfl
            case r8_9 =>
              intro wq hbw st  K hK
              have KQ := KW.out.trans (hbw.mono KW.out.size)
              simp only [Act.put, List.setIfInBounds_toArray, List.set_cons_zero, List.set_cons_succ] at hK ⊢
              unfold opStep
              rw [if_pos (by rfl)]
              have d2 := (HN2.out.1 wq KQ).2.2.1
              go_simp
              exact hK.out _ _ (Below.refl _ _) rfl _ rfl
            case r8_10 =>
              intro wq hbw st  K hK
              have KQ := KW.out.trans (hbw.mono KW.out.size)
              simp only [Act.put, List.setIfInBounds_toArray, List.set_cons_zero, List.set_cons_succ] at hK ⊢
              unfold opStep
              rw [if_pos (by rfl)]
              have e9 := E9.out
              go_simp
              exact hK.out _ _ (Below.refl _ _) rfl _ rfl
            case r8_fin =>
              intro wq hbw
              try simp only [FinAll]
              simp only [Act.put, List.setIfInBounds_toArray, List.set_cons_zero, List.set_cons_succ]
              replace KW := Lib.hid (KW.out.trans (hbw.mono KW.out.size))
              clear hbw
              by_cases hik : i < k
              · have HE2 := Lib.hid (HE.out.trans (decide_eq_true hik))
                have hiki : (i : Int) < (k : Int) := by omega
                clear hik
                go_wp2
                go_ret
                exact ⟨ret_bool HE2.out.symm, KW.out⟩
              · have HE2 := Lib.hid (HE.out.trans (decide_eq_false hik))
                have hiki : ¬ (i : Int) < (k : Int) := by omega
                clear hik
                go_wp2
                go_ret
                exact ⟨ret_bool HE2.out.symm, KW.out⟩
          · have E9 := Lib.hid (bne_t hbe)
            have HE := Lib.hid (HKB.out HAB.out HUU.out hbe)
            clear hbe
            go_upto_region 7 with fail
            refine region_left [.is (.slice (some ⟨b, off, none⟩) h.length cap), .is (.int .i64 (i : Int)), .is (.pointer (some ⟨b, off + i * 6, none⟩)), .is (.pointer (some ⟨b, off + i * 6 + 2, none⟩)), .is (.int .i64 (begO x)), .is (.slice (some ⟨b, off, none⟩) h.length cap), .is (.int .i64 (k : Int)), .is (.pointer (some ⟨b, off + k * 6, none⟩)), .is (.pointer (some ⟨b, off + k * 6 + 2, none⟩)), .is (.int .i64 (begO y)), .is (.bool true)] (by kernel_rfl) rfl (by kernel_rfl) (by kernel_rfl) (.cons ?r11_0 (.cons ?r11_1 (.cons ?r11_2 (.cons ?r11_3 (.cons ?r11_4 (.cons ?r11_5 (.cons ?r11_6 (.cons ?r11_7 (.cons ?r11_8 (.cons ?r11_9 (.cons ?r11_10 .nil))))))))))) ?r11_fin
            case r11_0 =>
              intro wq hbw st  K hK
              have KQ := KW.out.trans (hbw.mono KW.out.size)
              simp only [Act.put, List.setIfInBounds_toArray, List.set_cons_zero, List.set_cons_succ] at hK ⊢
              unfold opStep
              rw [if_pos (by rfl)]
              go_simp
              exact hK.out _ _ (Below.refl _ _) rfl _ rfl
            case r11_1 =>
              intro wq hbw st  K hK
              have KQ := KW.out.trans (hbw.mono KW.out.size)
              simp only [Act.put, List.setIfInBounds_toArray, List.set_cons_zero, List.set_cons_succ] at hK ⊢
              unfold opStep
              rw [if_pos (by rfl)]
              go_simp
              exact hK.out _ _ (Below.refl _ _) rfl _ rfl
            case r11_2 =>
              intro wq hbw st  K hK
              have KQ := KW.out.trans (hbw.mono KW.out.size)
              simp only [Act.put, List.setIfInBounds_toArray, List.set_cons_zero, List.set_cons_succ] at hK ⊢
              unfold opStep
              rw [if_pos (by rfl)]
              go_simp
              exact hK.out _ _ (Below.refl _ _) rfl _ rfl
            case r11_3 =>
              intro wq hbw st  K hK
              have KQ := KW.out.trans (hbw.mono KW.out.size)
              simp only [Act.put, List.setIfInBounds_toArray, List.set_cons_zero, List.set_cons_succ] at hK ⊢
              unfold opStep
              rw [if_pos (by rfl)]
              go_simp
              exact hK.out _ _ (Below.refl _ _) rfl _ rfl
            case r11_4 =>
              intro wq hbw st  K hK
              have KQ := KW.out.trans (hbw.mono KW.out.size)
              simp only [Act.put, List.setIfInBounds_toArray, List.set_cons_zero, List.set_cons_succ] at hK ⊢
              unfold opStep
              rw [if_pos (by rfl)]
              have d2 := (HN.out.1 wq KQ).2.2.1
              go_simp
              exact hK.out _ _ (Below.refl _ _) rfl _ rfl
            case r11_5 =>
              intro wq hbw st  K hK
              have KQ := KW.out.trans (hbw.mono KW.out.size)
              simp only [Act.put, List.setIfInBounds_toArray, List.set_cons_zero, List.set_cons_succ] at hK ⊢
              unfold opStep
              rw [if_pos (by rfl)]
              go_simp
              exact hK.out _ _ (Below.refl _ _) rfl _ rfl
            case r11_6 =>
              intro wq hbw st  K hK
              have KQ := KW.out.trans (hbw.mono KW.out.size)
              simp only [Act.put, List.setIfInBounds_toArray, List.set_cons_zero, List.set_cons_succ] at hK ⊢
              unfold opStep
              rw [if_pos (by rfl)]
              go_simp
              exact hK.out _ _ (Below.refl _ _) rfl _ rfl
            case r11_7 =>
              intro wq hbw st  K hK
              have KQ := KW.out.trans (hbw.mono KW.out.size)
              simp only [Act.put, List.setIfInBounds_toArray, List.set_cons_zero, List.set_cons_succ] at hK ⊢
              unfold opStep
              rw [if_pos (by rfl)]
              go_simp
              exact hK.out _ _ (Below.refl _ _) rfl _ rfl
            case r11_8 =>
              intro wq hbw st  K hK
              have KQ := KW.out.trans (hbw.mono KW.out.size)
              simp only [Act.put, List.setIfInBounds_toArray, List.set_cons_zero, List.set_cons_succ] at hK ⊢
              unfold opStep
              rw [if_pos (by rfl)]
              go_simp
              exact hK.out _ _ (Below.refl _ _) rfl _ rfl
            case r11_9 =>
              intro wq hbw st  K hK
              have KQ := KW.out.trans (hbw.mono KW.out.size)
              simp only [Act.put, List.setIfInBounds_toArray, List.set_cons_zero, List.set_cons_succ] at hK ⊢
              unfold opStep
              rw [if_pos (by rfl)]
              have d2 := (HN2.out.1 wq KQ).2.2.1
              go_simp
              exact hK.out _ _ (Below.refl _ _) rfl _ rfl
            case r11_10 =>
              intro wq hbw st  K hK
              have KQ := KW.out.trans (hbw.mono KW.out.size)
              simp only [Act.put, List.setIfInBounds_toArray, List.set_cons_zero, List.set_cons_succ] at hK ⊢
              unfold opStep
              rw [if_pos (by rfl)]
              have e9 := E9.out
              go_simp
              exact hK.out _ _ (Below.refl _ _) rfl _ rfl
            case r11_fin =>
              intro wq hbw
              try simp only [FinAll]
              simp only [Act.put, List.setIfInBounds_toArray, List.set_cons_zero, List.set_cons_succ]
              replace KW := Lib.hid (KW.out.trans (hbw.mono KW.out.size))
              clear hbw
              by_cases hlt : begO x < begO y
              · have E8 := Lib.hid (id hlt)
                have HE2 := Lib.hid (HE.out.trans (decide_eq_true hlt))
                clear hlt
                go_upto_region 8 with fail
                refine region_left [.is (.slice (some ⟨b, off, none⟩) h.length cap), .is (.int .i64 (i : Int)), .is (.pointer (some ⟨b, off + i * 6, none⟩)), .is (.pointer (some ⟨b, off + i * 6 + 2, none⟩)), .is (.int .i64 (begO x)), .is (.slice (some ⟨b, off, none⟩) h.length cap), .is (.int .i64 (k : Int)), .is (.pointer (some ⟨b, off + k * 6, none⟩)), .is (.pointer (some ⟨b, off + k * 6 + 2, none⟩)), .is (.int .i64 (begO y)), .is (.bool true), .is (.bool true)] (by kernel_rfl) rfl (by kernel_rfl) (by kernel_rfl) (.cons ?r9_0 (.cons ?r9_1 (.cons ?r9_2 (.cons ?r9_3 (.cons ?r9_4 (.cons ?r9_5 (.cons ?r9_6 (.cons ?r9_7 (.cons ?r9_8 (.cons ?r9_9 (.cons ?r9_10 (.cons ?r9_11 .nil)))))))))))) ?r9_fin
                case r9_0 =>
                  intro wq hbw st  K hK
                  have KQ := KW.out.trans (hbw.mono KW.out.size)
                  simp only [Act.put, List.setIfInBounds_toArray, List.set_cons_zero, List.set_cons_succ] at hK ⊢
                  unfold opStep
                  rw [if_pos (by rfl)]
                  go_simp
                  exact hK.out _ _ (Below.refl _ _) rfl _ rfl
                case r9_1 =>
                  intro wq hbw st  K hK
                  have KQ := KW.out.trans (hbw.mono KW.out.size)
                  simp only [Act.put, List.setIfInBounds_toArray, List.set_cons_zero, List.set_cons_succ] at hK ⊢
                  unfold opStep
                  rw [if_pos (by rfl)]
                  go_simp
                  exact hK.out _ _ (Below.refl _ _) rfl _ rfl
                case r9_2 =>
                  intro wq hbw st  K hK
                  have KQ := KW.out.trans (hbw.mono KW.out.size)
                  simp only [Act.put, List.setIfInBounds_toArray, List.set_cons_zero, List.set_cons_succ] at hK ⊢
                  unfold opStep
                  rw [if_pos (by rfl)]
                  go_simp
                  exact hK.out _ _ (Below.refl _ _) rfl _ rfl
                case r9_3 =>
                  intro wq hbw st  K hK
                  have KQ := KW.out.trans (hbw.mono KW.out.size)
                  simp only [Act.put, List.setIfInBounds_toArray, List.set_cons_zero, List.set_cons_succ] at hK ⊢
                  unfold opStep
                  rw [if_pos (by rfl)]
                  go_simp
                  exact hK.out _ _ (Below.refl _ _) rfl _ rfl
                case r9_4 =>
                  intro wq hbw st  K hK
                  have KQ := KW.out.trans (hbw.mono KW.out.size)
                  simp only [Act.put, List.setIfInBounds_toArray, List.set_cons_zero, List.set_cons_succ] at hK ⊢
                  unfold opStep
                  rw [if_pos (by rfl)]
                  have d2 := (HN.out.1 wq KQ).2.2.1
                  go_simp
                  exact hK.out _ _ (Below.refl _ _) rfl _ rfl
                case r9_5 =>
                  intro wq hbw st  K hK
                  have KQ := KW.out.trans (hbw.mono KW.out.size)
                  simp only [Act.put, List.setIfInBounds_toArray, List.set_cons_zero, List.set_cons_succ] at hK ⊢
                  unfold opStep
                  rw [if_pos (by rfl)]
                  go_simp
                  exact hK.out _ _ (Below.refl _ _) rfl _ rfl
                case r9_6 =>
                  intro wq hbw st  K hK
                  have KQ := KW.out.trans (hbw.mono KW.out.size)
                  simp only [Act.put, List.setIfInBounds_toArray, List.set_cons_zero, List.set_cons_succ] at hK ⊢
                  unfold opStep
                  rw [if_pos (by rfl)]
                  go_simp
                  exact hK.out _ _ (Below.refl _ _) rfl _ rfl
                case r9_7 =>
                  intro wq hbw st  K hK
                  have KQ := KW.out.trans (hbw.mono KW.out.size)
                  simp only [Act.put, List.setIfInBounds_toArray, List.set_cons_zero, List.set_cons_succ] at hK ⊢
                  unfold opStep
                  rw [if_pos (by rfl)]
                  go_simp
                  exact hK.out _ _ (Below.refl _ _) rfl _ rfl
                case r9_8 =>
                  intro wq hbw st  K hK
                  have KQ := KW.out.trans (hbw.mono KW.out.size)
                  simp only [Act.put, List.setIfInBounds_toArray, List.set_cons_zero, List.set_cons_succ] at hK ⊢
                  unfold opStep
                  rw [if_pos (by rfl)]
                  go_simp
                  exact hK.out _ _ (Below.refl _ _) rfl _ rfl
                case r9_9 =>
                  intro wq hbw st  K hK
                  have KQ := KW.out.trans (hbw.mono KW.out.size)
                  simp only [Act.put, List.setIfInBounds_toArray, List.set_cons_zero, List.set_cons_succ] at hK ⊢
                  unfold opStep
                  rw [if_pos (by rfl)]
                  have d2 := (HN2.out.1 wq KQ).2.2.1
                  go_simp
                  exact hK.out _ _ (Below.refl _ _) rfl _ rfl
                case r9_10 =>
                  intro wq hbw st  K hK
                  have KQ := KW.out.trans (hbw.mono KW.out.size)
                  simp only [Act.put, List.setIfInBounds_toArray, List.set_cons_zero, List.set_cons_succ] at hK ⊢
                  unfold opStep
                  rw [if_pos (by rfl)]
                  have e9 := E8.out
                  go_simp
                  exact hK.out _ _ (Below.refl _ _) rfl _ rfl
                case r9_11 =>
                  intro wq hbw st  K hK
                  have KQ := KW.out.trans (hbw.mono KW.out.size)
                  simp only [Act.put, List.setIfInBounds_toArray, List.set_cons_zero, List.set_cons_succ] at hK ⊢
                  unfold opStep
                  rw [if_pos (by rfl)]
                  go_simp
                  exact hK.out _ _ (Below.refl _ _) rfl _ rfl
                case r9_fin =>
                  intro wq hbw
                  try simp only [FinAll]
                  simp only [Act.put, List.setIfInBounds_toArray, List.set_cons_zero, List.set_cons_succ]
                  replace KW := Lib.hid (KW.out.trans (hbw.mono KW.out.size))
                  clear hbw
                  go_wp2
                  go_ret
                  exact ⟨ret_bool HE2.out.symm, KW.out⟩
              · have E8 := Lib.hid (id hlt)
                have HE2 := Lib.hid (HE.out.trans (decide_eq_false hlt))
                clear hlt
                go_upto_region 8 with fail
                refine region_left [.is (.slice (some ⟨b, off, none⟩) h.length cap), .is (.int .i64 (i : Int)), .is (.pointer (some ⟨b, off + i * 6, none⟩)), .is (.pointer (some ⟨b, off + i * 6 + 2, none⟩)), .is (.int .i64 (begO x)), .is (.slice (some ⟨b, off, none⟩) h.length cap), .is (.int .i64 (k : Int)), .is (.pointer (some ⟨b, off + k * 6, none⟩)), .is (.pointer (some ⟨b, off + k * 6 + 2, none⟩)), .is (.int .i64 (begO y)), .is (.bool false), .is (.bool false)] (by kernel_rfl) rfl (by kernel_rfl) (by kernel_rfl) (.cons ?r10_0 (.cons ?r10_1 (.cons ?r10_2 (.cons ?r10_3 (.cons ?r10_4 (.cons ?r10_5 (.cons ?r10_6 (.cons ?r10_7 (.cons ?r10_8 (.cons ?r10_9 (.cons ?r10_10 (.cons ?r10_11 .nil)))))))))))) ?r10_fin
                case r10_0 =>
                  intro wq hbw st  K hK
                  have KQ := KW.out.trans (hbw.mono KW.out.size)
                  simp only [Act.put, List.setIfInBounds_toArray, List.set_cons_zero, List.set_cons_succ] at hK ⊢
                  unfold opStep
                  rw [if_pos (by rfl)]
                  go_simp
                  exact hK.out _ _ (Below.refl _ _) rfl _ rfl
                case r10_1 =>
                  intro wq hbw st  K hK
                  have KQ := KW.out.trans (hbw.mono KW.out.size)
                  simp only [Act.put, List.setIfInBounds_toArray, List.set_cons_zero, List.set_cons_succ] at hK ⊢
                  unfold opStep
                  rw [if_pos (by rfl)]
                  go_simp
                  exact hK.out _ _ (Below.refl _ _) rfl _ rfl
                case r10_2 =>
                  intro wq hbw st  K hK
                  have KQ := KW.out.trans (hbw.mono KW.out.size)
                  simp only [Act.put, List.setIfInBounds_toArray, List.set_cons_zero, List.set_cons_succ] at hK ⊢
                  unfold opStep
                  rw [if_pos (by rfl)]
                  go_simp
                  exact hK.out _ _ (Below.refl _ _) rfl _ rfl
                case r10_3 =>
                  intro wq hbw st  K hK
                  have KQ := KW.out.trans (hbw.mono KW.out.size)
                  simp only [Act.put, List.setIfInBounds_toArray, List.set_cons_zero, List.set_cons_succ] at hK ⊢
                  unfold opStep
                  rw [if_pos (by rfl)]
                  go_simp
                  exact hK.out _ _ (Below.refl _ _) rfl _ rfl
                case r10_4 =>
                  intro wq hbw st  K hK
                  have KQ := KW.out.trans (hbw.mono KW.out.size)
                  simp only [Act.put, List.setIfInBounds_toArray, List.set_cons_zero, List.set_cons_succ] at hK ⊢
                  unfold opStep
                  rw [if_pos (by rfl)]
                  have d2 := (HN.out.1 wq KQ).2.2.1
                  go_simp
                  exact hK.out _ _ (Below.refl _ _) rfl _ rfl
                case r10_5 =>
                  intro wq hbw st  K hK
                  have KQ := KW.out.trans (hbw.mono KW.out.size)
                  simp only [Act.put, List.setIfInBounds_toArray, List.set_cons_zero, List.set_cons_succ] at hK ⊢
                  unfold opStep
                  rw [if_pos (by rfl)]
                  go_simp
                  exact hK.out _ _ (Below.refl _ _) rfl _ rfl
                case r10_6 =>
                  intro wq hbw st  K hK
                  have KQ := KW.out.trans (hbw.mono KW.out.size)
                  simp only [Act.put, List.setIfInBounds_toArray, List.set_cons_zero, List.set_cons_succ] at hK ⊢
                  unfold opStep
                  rw [if_pos (by rfl)]
                  go_simp
                  exact hK.out _ _ (Below.refl _ _) rfl _ rfl
                case r10_7 =>
                  intro wq hbw st  K hK
                  have KQ := KW.out.trans (hbw.mono KW.out.size)
                  simp only [Act.put, List.setIfInBounds_toArray, List.set_cons_zero, List.set_cons_succ] at hK ⊢
                  unfold opStep
                  rw [if_pos (by rfl)]
                  go_simp
                  exact hK.out _ _ (Below.refl _ _) rfl _ rfl
                case r10_8 =>
                  intro wq hbw st  K hK
                  have KQ := KW.out.trans (hbw.mono KW.out.size)
                  simp only [Act.put, List.setIfInBounds_toArray, List.set_cons_zero, List.set_cons_succ] at hK ⊢
                  unfold opStep
                  rw [if_pos (by rfl)]
                  go_simp
                  exact hK.out _ _ (Below.refl _ _) rfl _ rfl
                case r10_9 =>
                  intro wq hbw st  K hK
                  have KQ := KW.out.trans (hbw.mono KW.out.size)
                  simp only [Act.put, List.setIfInBounds_toArray, List.set_cons_zero, List.set_cons_succ] at hK ⊢
                  unfold opStep
                  rw [if_pos (by rfl)]
                  have d2 := (HN2.out.1 wq KQ).2.2.1
                  go_simp
                  exact hK.out _ _ (Below.refl _ _) rfl _ rfl
                case r10_10 =>
                  intro wq hbw st  K hK
                  have KQ := KW.out.trans (hbw.mono KW.out.size)
                  simp only [Act.put, List.setIfInBounds_toArray, List.set_cons_zero, List.set_cons_succ] at hK ⊢
                  unfold opStep
                  rw [if_pos (by rfl)]
                  have e9 := E8.out
                  go_simp
                  exact hK.out _ _ (Below.refl _ _) rfl _ rfl
                case r10_11 =>
                  intro wq hbw st  K hK
                  have KQ := KW.out.trans (hbw.mono KW.out.size)
                  simp only [Act.put, List.setIfInBounds_toArray, List.set_cons_zero, List.set_cons_succ] at hK ⊢
                  unfold opStep
                  rw [if_pos (by rfl)]
                  go_simp
                  exact hK.out _ _ (Below.refl _ _) rfl _ rfl
                case r10_fin =>
                  intro wq hbw
                  try simp only [FinAll]
                  simp only [Act.put, List.setIfInBounds_toArray, List.set_cons_zero, List.set_cons_succ]
                  replace KW := Lib.hid (KW.out.trans (hbw.mono KW.out.size))
                  clear hbw
                  go_wp2
                  go_ret
                  exact ⟨ret_bool HE2.out.symm, KW.out⟩
  · have e0 := bne_t hab
    have HE := Lib.hid (HKL.out hab)
    clear hab
    by_cases hlt : (n1 : Int) < (n2 : Int)
    · have HE2 := Lib.hid (HE.out.trans (decide_eq_true hlt))
      go_wp2
      go_ret
      exact ⟨ret_bool HE2.out.symm, KW.out⟩
    · have HE2 := Lib.hid (HE.out.trans (decide_eq_false hlt))
      go_wp2
      go_ret
      exact ⟨ret_bool ((decide_eq_false (by omega)).trans HE2.out.symm), KW.out⟩
end Go.Proofs.YtjijlhjggpibjaaGreat
namespace Go.Proofs.YtjijlhjggpibjaaGreat
open Go.RowKit

/-- Indices in a row of the call's own. -/
structure RowN (w2 wr : World) (o : Value) (l : List Nat) : Prop where
  bel : Below w2.heap.size w2 wr
  row : wr.ownsRow w2.heap.size 3 1 o l.length ((intsNN l).map vi)
section
variable {w2 wr w' : World} {o v' : Value} {l : List Nat}
theorem RowN.nil (w2 : World) : RowN w2 w2 (.slice none 0 0) [] := ⟨Below.refl _ _, World.ownsRow_nil _ _ _ _⟩
theorem RowN.on (h : RowN w2 wr o l) (hb : Below wr.heap.size wr w') : RowN w2 w' o l := ⟨h.bel.trans (hb.mono h.bel.size), below_row h.row hb⟩
theorem RowN.more (h : RowN w2 wr o l) {x : Nat} (hr : w'.ownsRow w2.heap.size 3 1 v' (l.length + 1) ((intsNN l ++ [(x : Int)]).map vi)) (hg : wr.grownBy w' o.ownBlock) : RowN w2 w' v' (l ++ [x]) :=
  ⟨h.bel.grown hg h.bel.size (fun j hj => (h.row.lt j hj).1), by rw [intsNN_snoc, List.length_append]; exact hr⟩
theorem RowN.slc (h : RowN w2 wr o l) : ∃ a c, o = .slice a l.length c ∧ l.length ≤ c ∧ c ≤ 2 ^ 63 - 1 := by
  rcases h.row.2 with ⟨rfl, h0⟩ | ⟨g, cap, cur, rfl, _, _, hn, hm, _, _⟩
  · exact ⟨none, 0, by rw [h0], by omega, by omega⟩
  · unfold maxLen at hm
    exact ⟨_, cap, rfl, hn, by omega⟩
theorem RowN.two (h : RowN w2 wr o l) {i k : Nat} (hi : i < l.length) (hk : k < l.length) :
    ∃ g cap, o = .slice (some ⟨g, 0, none⟩) l.length cap ∧ w2.heap.size ≤ g ∧ g < wr.heap.size ∧ wr.cell? ⟨g, i, none⟩ = some (.int .i64 ((l[i] : Nat) : Int)) ∧ wr.cell? ⟨g, k, none⟩ = some (.int .i64 ((l[k] : Nat) : Int)) ∧ wr.frozen? ⟨g, i, none⟩ = false ∧ wr.frozen? ⟨g, k, none⟩ = false := by
  obtain ⟨g, cap, rfl, h1, h2, _, _⟩ := owned_addr h.row (by omega)
  have hc : ∀ j (hj : j < l.length), wr.cell? ⟨g, j, none⟩ = some (.int .i64 ((l[j] : Nat) : Int)) := fun j hj => by
    obtain ⟨h', e⟩ := nn_at hj
    rw [h.row.cellAt j (by omega), List.getElem?_map, List.getElem?_eq_getElem h', e]; rfl
  exact ⟨g, cap, rfl, h1, h2, hc i hi, hc k hk, h.row.frozenAt i, h.row.frozenAt k⟩
theorem RowN.swap {g n cap i k : Nat} (h : RowN w2 wr (.slice (some ⟨g, 0, none⟩) n cap) l) (hi : i < l.length) (hk : k < l.length) :
    RowN w2 ((wr.setCell ⟨g, i, none⟩ (.int .i64 ((l[k] : Nat) : Int))).setCell ⟨g, k, none⟩ (.int .i64 ((l[i] : Nat) : Int))) (.slice (some ⟨g, 0, none⟩) n cap) (swp l i k) := by
  have hg : w2.heap.size ≤ g := (h.row.lt g rfl).1
  have hn : n = l.length := by
    obtain ⟨a, c, e, _, _⟩ := h.slc
    injection e
  subst hn
  have s1 := (h.row.stored i (.int .i64 ((l[k] : Nat) : Int))).1
  have s2 := (s1.stored k (.int .i64 ((l[i] : Nat) : Int))).1
  refine ⟨(h.bel.setCell hg _).setCell hg _, ?_⟩
  rw [swp_eq hi hk, List.length_set, List.length_set]
  have e : (intsNN ((l.set i l[k]).set k l[i])).map vi = (((intsNN l).map vi).set i (.int .i64 ((l[k] : Nat) : Int))).set k (.int .i64 ((l[i] : Nat) : Int)) := by
    unfold intsNN
    rw [List.map_set, List.map_set, List.map_set, List.map_set]; rfl
  rw [e]
  exact s2
end
section
variable {h : List Opn} {C : List (List Str)}
theorem keyG_ge {lv : Nat → Int} (x y z : Nat) (h1 : ¬ keyG lv h y x) (h2 : ¬ keyG lv h z y) : ¬ keyG lv h z x := by unfold keyG at *; omega
theorem rsort_ord (hw : Well h) (hc : ChainD h h.length C) {l : List Nat} (hp : l.Perm ((List.range h.length).filter (incI h))) (hs : l.Pairwise fun a b => ¬ keyG (lvR h C) h b a) : l = ordI h := by
  refine sort_ord hw hc (hp.trans filter_out) (List.Pairwise.imp_of_mem ?_ hs)
  intro a b ha hb hab
  have hm : ∀ x, x ∈ l → lvR h C x = lvZ h C x := fun x hx => by
    obtain ⟨h1, h2⟩ := List.mem_filter.1 (hp.mem_iff.1 hx)
    unfold lvR lvZ
    rw [(lev_is hw hc (List.mem_range.1 h1)).2 h2]
  intro q
  exact hab ((keyG_congr (hm b hb) (hm a ha)).2 q)
theorem fil_yes {k : Nat} (hi : incI h k = true) : (List.range (k + 1)).filter (incI h) = (List.range k).filter (incI h) ++ [k] := by
  rw [List.range_succ, List.filter_append]; simp [hi]
theorem fil_no {k : Nat} (hi : incI h k = false) : (List.range (k + 1)).filter (incI h) = (List.range k).filter (incI h) := by
  rw [List.range_succ, List.filter_append]; simp [hi]
end
set_option maxRecDepth 100000 in
set_option maxHeartbeats 16000000 in
theorem rorder_any (v : Value) (h : List Opn) (W : World) (hr : ReadsO W v h) (hs : SmallH h) : Calls Tryz.prog 7 #[v] W (OrderMade W h) := by
  have HR := Lib.hid hr
  have HS := Lib.hid hs
  have hn := hs.1
  obtain ⟨ao, cap, rfl, hl, hm, -, -⟩ := hr
  unfold maxLen at hm
  clear hs
  go_enter Tryz.func7, Tryz.ntmps7
  go_wp2_with fail
  refine (rck_any _ h _ HR.out HS.out).mono ?_
  rintro e w1 ⟨v1, rfl, hr1, hb1⟩
  have KW1 := Lib.hid hb1
  clear hr1 hb1
  by_cases hz : (resR h).1 = 0
  · have HZ := Lib.hid hz
    have HWN := Lib.hid (res_ok hz)
    obtain ⟨C, hC, hD⟩ := chainR_is HWN.out.1 HWN.out.2
    have HD := Lib.hid hD
    have e0 := bne_f hz
    have HFC : Hid (∀ s ∈ C, s.length ≤ 1000) := Lib.hid fun s hs => by
      obtain ⟨r, r1, _, rfl⟩ := (hD.mem s).1 hs
      unfold setI
      rw [nth_eq r1]
      exact Nat.le_trans (ofL_length _) (HS.out.2 _ (List.getElem_mem r1)).2.1
    clear hz hC hD
    go_wp2_with fail
    refine (sets_any _ h _ (HR.out.on KW1.out) HS.out C HWN.out.1 HD.out).mono ?_
    rintro e w2 ⟨cv, rfl, hown⟩
    have HC := Lib.hid (SetsR.of hown)
    have KW2 := Lib.hid (KW1.out.trans (hown.1.mono KW1.out.size))
    obtain ⟨ca, ck, rfl⟩ := hown.slc
    have HB0 := Lib.hid (RowN.nil w2)
    clear hown e0 KW1
    go_wp2
    go_loopg [7, 8] h.length (fun m o i wr => ∃ k : Nat, m + k = h.length ∧ i = .int .i64 ((k : Nat) : Int) ∧ RowN w2 wr o ((List.range k).filter (incI h)))
    case atStart => exact ⟨0, by omega, rfl, HB0.out⟩
    case round =>
      clear HB0
      obtain ⟨k, hmk, rfl, hrow⟩ := hrel
      have HM := Lib.hid hmk
      have HO := Lib.hid hrow
      have KW := Lib.hid (KW2.out.trans (hrow.bel.mono KW2.out.size))
      have hk : k ≤ h.length := by omega
      obtain ⟨oa, oc, rfl, hoc1, hoc2⟩ := hrow.slc
      have hll : ((List.range k).filter (incI h)).length ≤ k := by
        have := List.length_filter_le (incI h) (List.range k)
        rw [List.length_range] at this
        exact this
      clear hmk hrow
      by_cases hkl : k < h.length
      · obtain ⟨b, off, cap1, a4, c4, a5, c5, hv, _, _, hm4, hm5, hl4, hl5, hcell, r1, r2⟩ := HR.out.at2 hkl
        injection hv with e1 e2 e3
        subst e1
        have hki : (k : Int) < h.length := by omega
        have hk0 : (0 : Int) ≤ (k : Int) := by omega
        have HN := Lib.hid (And.intro r1 r2)
        have FX := Lib.hid (fit_of HS.out hkl)
        obtain ⟨d0, d1, d2, d3, d4, d5⟩ := hcell wr KW.out
        have HLV := Lib.hid (lev_is HWN.out.1 HD.out hkl).1
        rw [nth_eq hkl] at HLV
        have HYE := Lib.hid (fun q => fil_yes (h := h) (k := k) q)
        have HNE := Lib.hid (fun q => fil_no (h := h) (k := k) q)
        clear e2 e3 hcell r1 r2 hm4 hm5 hl4 hl5
        generalize h[k] = x at *
        generalize hL : (List.range k).filter (incI h) = L at *
        clear hkl hL
        go_wp2_with fail
        refine (level_any _ _ C x _ (HC.out.on HO.out.bel) ⟨_, _, rfl, HN.out.1.keep KW.out, HN.out.2.keep KW.out⟩ FX.out HFC.out).mono ?_
        rintro e w3 ⟨rfl, hb3⟩
        have HO3 := Lib.hid (HO.out.on hb3)
        rw [HLV.out]
        clear hb3 d0 d1 d2 d3 d4 d5 HO KW HLV
        generalize lvN C x = n1 at *
        cases hin : incI h k with
        | false =>
          have HG := Lib.hid (HNE.out hin)
          clear hin HNE HYE
          go_wp2
          go_roundg (h.length - (k + 1))
          case measure => have := HM.out; omega
          case rel => exact ⟨k + 1, by omega, by go_num, by rw [HG.out]; exact HO3.out⟩
        | true =>
          have HG := Lib.hid (HYE.out hin)
          have HAL : Hid (∀ c, Below w3.heap.size w3 (w3.alloc c)) := Lib.hid fun c => (Below.refl _ _).alloc (Nat.le_refl _) c
          have HONE : Hid (Reads vi (w3.alloc (.cells #[.int .i64 ((k : Nat) : Int)] 3)) (.slice (some ⟨w3.heap.size, 0, none⟩) 1 1) [((k : Nat) : Int)]) := Lib.hid (blk_reads (xs := [((k : Nat) : Int)]) (Blk.new w3 _ _) rfl (by simp))
          clear hin HNE HYE
          go_wp2_with (at_builtin; refine appendi_reads2 rfl _ _ rfl w2.heap.size (.slice oa L.length oc) (.slice (some ⟨w3.heap.size, 0, none⟩) 1 1) L.length (intsNN L) [((k : Nat) : Int)] rfl (HO3.out.on (HAL.out _)).row rfl HONE.out (by simp; omega) (Nat.le_trans HO3.out.bel.size (HAL.out _).size) ?_)
          intro v4 w4 hown4 hgr4
          have HO4 := Lib.hid ((HO3.out.on (HAL.out _)).more (x := k) (by rw [List.map_append]; exact hown4) hgr4)
          clear hown4 hgr4 HONE HAL HO3
          go_wp2
          go_roundg (h.length - (k + 1))
          case measure => have := HM.out; omega
          case rel => exact ⟨k + 1, by omega, by go_num, by rw [HG.out]; exact HO4.out⟩
      · have hkk : k = h.length := by omega
        subst hkk
        have HFIN := Lib.hid (fun (l : List Nat) a b => rsort_ord (l := l) HWN.out.1 HD.out a b)
        have HMEM : Hid (∀ (l : List Nat), l.Perm ((List.range h.length).filter (incI h)) → ∀ j (hj : j < l.length), l[j] < h.length) := Lib.hid fun l hp j hj => List.mem_range.1 (List.mem_filter.1 (hp.mem_iff.1 (List.getElem_mem hj))).1
        generalize hU : (List.range h.length).filter (incI h) = U at *
        clear hU
        go_wp2
        go_loopg [11] U.length (fun m i wz => ∃ (i0 : Nat) (L : List Nat), m + i0 = U.length ∧ i = .int .i64 ((i0 : Nat) : Int) ∧ ExS (keyG (lvR h C) h) U i0 (i0 + 1) L ∧ RowN w2 wz (.slice oa U.length oc) L)
        case atStart => exact ⟨0, U, by omega, rfl, ExS.start U, HO.out⟩
        case round =>
          obtain ⟨i0, L, hmi, rfl, hex, hrow⟩ := hrel
          have HM3 := Lib.hid hmi
          have HEX := Lib.hid hex
          have HOL := Lib.hid hrow
          have HLL := Lib.hid hex.perm.length_eq
          have hi : i0 ≤ U.length := by omega
          clear hmi hex hrow HO KW
          by_cases hil : i0 < U.length
          · have hii : (i0 : Int) < U.length := by omega
            have hi0 : (0 : Int) ≤ (i0 : Int) := by omega
            have HIL := Lib.hid (And.intro hil trivial)
            go_wp2
            obtain ⟨wy, hwy⟩ : ∃ x, x = wr := ⟨_, rfl⟩
            rw [← hwy] at HOL ⊢
            clear hwy
            obtain ⟨G2, hG2⟩ : ∃ G, G = gk := ⟨_, rfl⟩
            subst hG2
            go_loopg [12] (U.length - (i0 + 1)) (fun m i wz => ∃ (k0 : Nat) (L : List Nat), m + k0 = U.length ∧ i0 < k0 ∧ i = .int .i64 ((k0 : Nat) : Int) ∧ ExS (keyG (lvR h C) h) U i0 k0 L ∧ RowN w2 wz (.slice oa U.length oc) L)
            case atStart => exact ⟨i0 + 1, L, by omega, by omega, by go_num, HEX.out, HOL.out⟩
            case round =>
              clear HEX HOL HLL
              obtain ⟨k0, L, hmk, hik, rfl, hex, hrow⟩ := hrel
              have HM4 := Lib.hid hmk
              have HEX := Lib.hid hex
              have HOL := Lib.hid hrow
              have HLL := Lib.hid hex.perm.length_eq
              have hk : k0 ≤ U.length := by omega
              clear hmk hex hrow hil
              by_cases hkl : k0 < U.length
              · have hki : (k0 : Int) < U.length := by omega
                have hk0 : (0 : Int) ≤ (k0 : Int) := by omega
                have hiL : i0 < L.length := by rw [HLL.out]; exact HIL.out.1
                have hkL : k0 < L.length := by rw [HLL.out]; exact hkl
                obtain ⟨g, cg, hv, hg1, hg2, hc1, hc2, hf1, hf2⟩ := HOL.out.two hiL hkL
                injection hv with e1 e2 e3
                subst e1
                have HCI := Lib.hid (And.intro hg2 (And.intro hc1 (And.intro hc2 (And.intro hf1 hf2))))
                have HSW : Hid (keyG (lvR h C) h L[k0] L[i0] → ExS (keyG (lvR h C) h) U i0 (k0 + 1) (swp L i0 k0)) := Lib.hid fun q => HEX.out.swap (fun x y a => keyG_asymm a) (fun x y z a b => keyG_ge x y z a b) hik hkL q
                have HSK : Hid (¬ keyG (lvR h C) h L[k0] L[i0] → ExS (keyG (lvR h C) h) U i0 (k0 + 1) L) := Lib.hid fun q => HEX.out.skip fun _ _ => q
                have HPUT : Hid (∀ w', RowN w2 w' (.slice (some ⟨g, 0, none⟩) U.length oc) L → RowN w2 ((w'.setCell ⟨g, i0, none⟩ (.int .i64 ((L[k0] : Nat) : Int))).setCell ⟨g, k0, none⟩ (.int .i64 ((L[i0] : Nat) : Int))) (.slice (some ⟨g, 0, none⟩) U.length oc) (swp L i0 k0)) := Lib.hid fun w' a => a.swap hiL hkL
                have HFI : Hid (∀ wq, Below wr.heap.size wr wq → Calls Tryz.prog 25 #[.slice ao h.length cap, .slice ca C.length ck, .int .i64 ((L[k0] : Nat) : Int), .int .i64 ((L[i0] : Nat) : Int)] wq (BoolMade wq (decide (keyG (lvR h C) h L[k0] L[i0])))) := Lib.hid fun wq hq => by
                  have hbq := HOL.out.bel.trans (hq.mono HOL.out.bel.size)
                  exact first_any _ _ C h _ _ wq (HR.out.on (KW2.out.trans (hbq.mono KW2.out.size))) (HC.out.on hbq) HS.out HFC.out (HMEM.out L HEX.out.perm _ hkL) (HMEM.out L HEX.out.perm _ hiL)
                have HIK := Lib.hid hik
                clear e2 e3 hg1 hg2 hik hf1 hf2 hc1 hc2
                generalize L[k0] = lk at *
                generalize L[i0] = li at *
                clear hiL hkL hkl
                have mixed : Tryz.prog.follows .mixedOrders = true := by kernel_rfl
                by_cases hlt : keyG (lvR h C) h lk li
                · have HG := Lib.hid (HSW.out hlt)
                  have P1 := Lib.hid (decide_eq_true hlt)
                  clear HSW HSK hlt
                  go_upto_region 18 with fail
                  refine region_left [.is (.slice ao h.length cap), .is (.slice ca C.length ck), .is (.slice (some ⟨g, 0, none⟩) U.length oc), .is (.int .i64 (k0 : Int)), .is (.pointer (some ⟨g, k0, none⟩)), .is (.int .i64 (lk : Int)), .is (.slice (some ⟨g, 0, none⟩) U.length oc), .is (.int .i64 (i0 : Int)), .is (.pointer (some ⟨g, i0, none⟩)), .is (.int .i64 (li : Int)), .is (.bool true)] (by kernel_rfl) rfl (by kernel_rfl) (by kernel_rfl) (.cons ?r1_0 (.cons ?r1_1 (.cons ?r1_2 (.cons ?r1_3 (.cons ?r1_4 (.cons ?r1_5 (.cons ?r1_6 (.cons ?r1_7 (.cons ?r1_8 (.cons ?r1_9 (.cons ?r1_10 .nil))))))))))) ?r1_fin
                  case r1_0 =>
                    intro wq hbw st  K hK
                    simp only [Act.put, List.setIfInBounds_toArray, List.set_cons_zero, List.set_cons_succ] at hK ⊢
                    unfold opStep
                    rw [if_pos (by rfl)]
                    go_simp
                    exact hK.out _ _ (Below.refl _ _) rfl _ rfl
                  case r1_1 =>
                    intro wq hbw st  K hK
                    simp only [Act.put, List.setIfInBounds_toArray, List.set_cons_zero, List.set_cons_succ] at hK ⊢
                    unfold opStep
                    rw [if_pos (by rfl)]
                    go_simp
                    exact hK.out _ _ (Below.refl _ _) rfl _ rfl
                  case r1_2 =>
                    intro wq hbw st  K hK
                    simp only [Act.put, List.setIfInBounds_toArray, List.set_cons_zero, List.set_cons_succ] at hK ⊢
                    unfold opStep
                    rw [if_pos (by rfl)]
                    go_simp
                    exact hK.out _ _ (Below.refl _ _) rfl _ rfl
                  case r1_3 =>
                    intro wq hbw st  K hK
                    simp only [Act.put, List.setIfInBounds_toArray, List.set_cons_zero, List.set_cons_succ] at hK ⊢
                    unfold opStep
                    rw [if_pos (by rfl)]
                    go_simp
                    exact hK.out _ _ (Below.refl _ _) rfl _ rfl
                  case r1_4 =>
                    intro wq hbw st  K hK
                    simp only [Act.put, List.setIfInBounds_toArray, List.set_cons_zero, List.set_cons_succ] at hK ⊢
                    unfold opStep
                    rw [if_pos (by rfl)]
                    go_simp
                    exact hK.out _ _ (Below.refl _ _) rfl _ rfl
                  case r1_5 =>
                    intro wq hbw st  K hK
                    simp only [Act.put, List.setIfInBounds_toArray, List.set_cons_zero, List.set_cons_succ] at hK ⊢
                    unfold opStep
                    rw [if_pos (by rfl)]
                    have cs := (hbw.cell (p := ⟨g, k0, none⟩) HCI.out.1).trans HCI.out.2.2.1
                    go_simp
                    exact hK.out _ _ (Below.refl _ _) rfl _ rfl
                  case r1_6 =>
                    intro wq hbw st  K hK
                    simp only [Act.put, List.setIfInBounds_toArray, List.set_cons_zero, List.set_cons_succ] at hK ⊢
                    unfold opStep
                    rw [if_pos (by rfl)]
                    go_simp
                    exact hK.out _ _ (Below.refl _ _) rfl _ rfl
                  case r1_7 =>
                    intro wq hbw st  K hK
                    simp only [Act.put, List.setIfInBounds_toArray, List.set_cons_zero, List.set_cons_succ] at hK ⊢
                    unfold opStep
                    rw [if_pos (by rfl)]
                    go_simp
                    exact hK.out _ _ (Below.refl _ _) rfl _ rfl
                  case r1_8 =>
                    intro wq hbw st  K hK
                    simp only [Act.put, List.setIfInBounds_toArray, List.set_cons_zero, List.set_cons_succ] at hK ⊢
                    unfold opStep
                    rw [if_pos (by rfl)]
                    go_simp
                    exact hK.out _ _ (Below.refl _ _) rfl _ rfl
                  case r1_9 =>
                    intro wq hbw st  K hK
                    simp only [Act.put, List.setIfInBounds_toArray, List.set_cons_zero, List.set_cons_succ] at hK ⊢
                    unfold opStep
                    rw [if_pos (by rfl)]
                    have cs := (hbw.cell (p := ⟨g, i0, none⟩) HCI.out.1).trans HCI.out.2.1
                    go_simp
                    exact hK.out _ _ (Below.refl _ _) rfl _ rfl
                  case r1_10 =>
                    intro wq hbw st  K hK
                    simp only [Act.put, List.setIfInBounds_toArray, List.set_cons_zero, List.set_cons_succ] at hK ⊢
                    unfold opStep
                    rw [if_pos (by rfl)]
                    go_simp
                    have hpc := HFI.out wq hbw
                    rw [P1.out] at hpc
                    refine hpc.mono ?_
                    rintro e wy2 ⟨rfl, hbz⟩
                    go_simp
                    exact hK.out _ _ hbz rfl _ rfl
                  case r1_fin =>
                    intro wq hbw
                    try simp only [FinAll]
                    simp only [Act.put, List.setIfInBounds_toArray, List.set_cons_zero, List.set_cons_succ]
                    have HO5 := Lib.hid (HOL.out.on hbw)
                    have c1 := (hbw.cell (p := ⟨g, i0, none⟩) HCI.out.1).trans HCI.out.2.1
                    have c2 := (hbw.cell (p := ⟨g, k0, none⟩) HCI.out.1).trans HCI.out.2.2.1
                    have f1 := (hbw.frozen (p := ⟨g, i0, none⟩) HCI.out.1).trans HCI.out.2.2.2.1
                    have f2 := (hbw.frozen (p := ⟨g, k0, none⟩) HCI.out.1).trans HCI.out.2.2.2.2
                    clear hbw HOL
                    go_wp2
                    have hik := HIK.out
                    have hne : ¬ k0 = i0 := by omega
                    have hne2 : ¬ i0 = k0 := by omega
                    go_region
                    all_goals clear hne hne2 hik
                    all_goals go_wp2
                    go_roundg (U.length - (k0 + 1))
                    case measure => have := HM4.out; omega
                    case rel => exact ⟨k0 + 1, _, by omega, by have := HIK.out; omega, by go_num, HG.out, HPUT.out _ (HO5.out.on (below_drewN _))⟩
                · have HG := Lib.hid (HSK.out hlt)
                  have P1 := Lib.hid (decide_eq_false hlt)
                  clear HSW HSK hlt HPUT
                  go_upto_region 18 with fail
                  refine region_left [.is (.slice ao h.length cap), .is (.slice ca C.length ck), .is (.slice (some ⟨g, 0, none⟩) U.length oc), .is (.int .i64 (k0 : Int)), .is (.pointer (some ⟨g, k0, none⟩)), .is (.int .i64 (lk : Int)), .is (.slice (some ⟨g, 0, none⟩) U.length oc), .is (.int .i64 (i0 : Int)), .is (.pointer (some ⟨g, i0, none⟩)), .is (.int .i64 (li : Int)), .is (.bool false)] (by kernel_rfl) rfl (by kernel_rfl) (by kernel_rfl) (.cons ?r2_0 (.cons ?r2_1 (.cons ?r2_2 (.cons ?r2_3 (.cons ?r2_4 (.cons ?r2_5 (.cons ?r2_6 (.cons ?r2_7 (.cons ?r2_8 (.cons ?r2_9 (.cons ?r2_10 .nil))))))))))) ?r2_fin
                  case r2_0 =>
                    intro wq hbw st  K hK
                    simp only [Act.put, List.setIfInBounds_toArray, List.set_cons_zero, List.set_cons_succ] at hK ⊢
                    unfold opStep
                    rw [if_pos (by rfl)]
                    go_simp
                    exact hK.out _ _ (Below.refl _ _) rfl _ rfl
                  case r2_1 =>
                    intro wq hbw st  K hK
                    simp only [Act.put, List.setIfInBounds_toArray, List.set_cons_zero, List.set_cons_succ] at hK ⊢
                    unfold opStep
                    rw [if_pos (by rfl)]
                    go_simp
                    exact hK.out _ _ (Below.refl _ _) rfl _ rfl
                  case r2_2 =>
                    intro wq hbw st  K hK
                    simp only [Act.put, List.setIfInBounds_toArray, List.set_cons_zero, List.set_cons_succ] at hK ⊢
                    unfold opStep
                    rw [if_pos (by rfl)]
                    go_simp
                    exact hK.out _ _ (Below.refl _ _) rfl _ rfl
                  case r2_3 =>
                    intro wq hbw st  K hK
                    simp only [Act.put, List.setIfInBounds_toArray, List.set_cons_zero, List.set_cons_succ] at hK ⊢
                    unfold opStep
                    rw [if_pos (by rfl)]
                    go_simp
                    exact hK.out _ _ (Below.refl _ _) rfl _ rfl
                  case r2_4 =>
                    intro wq hbw st  K hK
                    simp only [Act.put, List.setIfInBounds_toArray, List.set_cons_zero, List.set_cons_succ] at hK ⊢
                    unfold opStep
                    rw [if_pos (by rfl)]
                    go_simp
                    exact hK.out _ _ (Below.refl _ _) rfl _ rfl
                  case r2_5 =>
                    intro wq hbw st  K hK
                    simp only [Act.put, List.setIfInBounds_toArray, List.set_cons_zero, List.set_cons_succ] at hK ⊢
                    unfold opStep
                    rw [if_pos (by rfl)]
                    have cs := (hbw.cell (p := ⟨g, k0, none⟩) HCI.out.1).trans HCI.out.2.2.1
                    go_simp
                    exact hK.out _ _ (Below.refl _ _) rfl _ rfl
                  case r2_6 =>
                    intro wq hbw st  K hK
                    simp only [Act.put, List.setIfInBounds_toArray, List.set_cons_zero, List.set_cons_succ] at hK ⊢
                    unfold opStep
                    rw [if_pos (by rfl)]
                    go_simp
                    exact hK.out _ _ (Below.refl _ _) rfl _ rfl
                  case r2_7 =>
                    intro wq hbw st  K hK
                    simp only [Act.put, List.setIfInBounds_toArray, List.set_cons_zero, List.set_cons_succ] at hK ⊢
                    unfold opStep
                    rw [if_pos (by rfl)]
                    go_simp
                    exact hK.out _ _ (Below.refl _ _) rfl _ rfl
                  case r2_8 =>
                    intro wq hbw st  K hK
                    simp only [Act.put, List.setIfInBounds_toArray, List.set_cons_zero, List.set_cons_succ] at hK ⊢
                    unfold opStep
                    rw [if_pos (by rfl)]
                    go_simp
                    exact hK.out _ _ (Below.refl _ _) rfl _ rfl
                  case r2_9 =>
                    intro wq hbw st  K hK
                    simp only [Act.put, List.setIfInBounds_toArray, List.set_cons_zero, List.set_cons_succ] at hK ⊢
                    unfold opStep
                    rw [if_pos (by rfl)]
                    have cs := (hbw.cell (p := ⟨g, i0, none⟩) HCI.out.1).trans HCI.out.2.1
                    go_simp
                    exact hK.out _ _ (Below.refl _ _) rfl _ rfl
                  case r2_10 =>
                    intro wq hbw st  K hK
                    simp only [Act.put, List.setIfInBounds_toArray, List.set_cons_zero, List.set_cons_succ] at hK ⊢
                    unfold opStep
                    rw [if_pos (by rfl)]
                    go_simp
                    have hpc := HFI.out wq hbw
                    rw [P1.out] at hpc
                    refine hpc.mono ?_
                    rintro e wy2 ⟨rfl, hbz⟩
                    go_simp
                    exact hK.out _ _ hbz rfl _ rfl
                  case r2_fin =>
                    intro wq hbw
                    try simp only [FinAll]
                    simp only [Act.put, List.setIfInBounds_toArray, List.set_cons_zero, List.set_cons_succ]
                    have HO5 := Lib.hid (HOL.out.on hbw)
                    clear hbw HOL
                    go_wp2
                    go_roundg (U.length - (k0 + 1))
                    case measure => have := HM4.out; omega
                    case rel => exact ⟨k0 + 1, _, by omega, by have := HIK.out; omega, by go_num, HG.out, HO5.out⟩
              · have HG := Lib.hid (HEX.out.next (by rw [HLL.out]; omega))
                go_wp2
                go_roundg (U.length - (i0 + 1))
                case measure => have := HM3.out; omega
                case rel => exact ⟨i0 + 1, _, by omega, by go_num, HG.out, HOL.out⟩
          · have HE := Lib.hid (HFIN.out L HEX.out.perm (HEX.out.sorted (by rw [HLL.out]; omega)))
            have HRD : Hid (Reads vi wr (.slice oa U.length oc) (intsNN L)) := Lib.hid (Reads.of_owns (enc := vi) HOL.out.row)
            have HBE := Lib.hid (KW2.out.trans (HOL.out.bel.mono KW2.out.size))
            go_wp2
            go_ret2
            exact order_yes HZ.out HRD.out HE.out HBE.out
  · have HZ := Lib.hid hz
    have e0 := bne_t hz
    clear hz
    go_wp2
    go_ret2
    exact order_no HZ.out KW1.out
  end Go.Proofs.YtjijlhjggpibjaaGreat
