/-
  ScheduleLayers: for all arguments the law returns true, and what came in reads behind the call as before. No condition.
-/
import Derived.Test.YtfdicndmebhmdaaOa
import Derived.Test.YtfdicndmebhmdaaNa
import Derived.Test.YtfdicndmebhmdaaHq
import Derived.Deep.DeepCutAuto
namespace Go.Proofs.Ytfdicndmebhmdaa.scheduleLayers
open Go.ChangeShapes Go.WideShapes Go.ChangeAt Go.RowKit

theorem OutL.cell {B m n c : Nat} {w : World} {a : Option Addr} {LL : Nat → List Int} (h : OutL B w (.slice a n c) m LL) {k : Nat} (hk : k < m) : ∃ ga u c', a = some ⟨ga, 0, none⟩ ∧ (∀ wq, Below w.heap.size w wq → wq.cell? ⟨ga, k, none⟩ = some (.slice u (LL k).length c')) ∧ Reads vi w (.slice u (LL k).length c') (LL k) := by
  obtain ⟨f, h1, h2, -⟩ := h
  obtain ⟨a', c', e⟩ := row_slc h1
  injection e with e1 e2 e3
  subst e1 e2 e3
  obtain ⟨g, rfl, -, h5⟩ := row_at h1 (by omega)
  have h6 := h2 k hk
  obtain ⟨a2, c2, e2⟩ := row_slc h6
  rw [e2] at h6
  exact ⟨g, a2, c2, rfl, fun wq hq => h5 wq hq k _ (by rw [List.getElem?_map, List.getElem?_range hk]; exact congrArg some e2), Reads.of_owns h6⟩
theorem prC_get : ∀ {l : List (Nat × Nat)} {n : Nat} (h : n < l.length), (prC l)[n * 2]? = some (.int .i64 (l[n].1 : Nat)) ∧ (prC l)[n * 2 + 1]? = some (.int .i64 (l[n].2 : Nat))
  | [], _, h => absurd h (Nat.not_lt_zero _)
  | p :: l, 0, _ => ⟨rfl, rfl⟩
  | p :: l, n + 1, h => by
    have e : prC (p :: l) = [.int .i64 (p.1 : Nat), .int .i64 (p.2 : Nat)] ++ prC l := by unfold prC; rw [List.flatMap_cons]
    have ih := prC_get (l := l) (n := n) (by simpa using h)
    rw [e, Nat.succ_mul, List.getElem?_append_right (by simp), List.getElem?_append_right (by simp)]
    simpa [Nat.add_sub_cancel, show n * 2 + 2 + 1 - 2 = n * 2 + 1 by omega] using ih
attribute [local go_sem] run_eq_pair
set_option maxRecDepth 100000 in
set_option maxHeartbeats 16000000 in
theorem walk (v : Value) (t : List Ev) (W : World) (hr : ReadsE W v t) : Calls Try.prog 8 #[v] W (BoolMade W true) := by
  have HR := Lib.hid hr
  obtain ⟨ao, cap, rfl, hl, hm, -, -⟩ := hr
  unfold maxLen at hm
  go_enter Try.func8, Try.ntmps8
  have KW := Lib.hid (Below.refl W.heap.size W)
  go_wp2_with fail
  refine (awake_any _).mono ?_
  rintro e w1 ⟨rfl, hb⟩
  replace HR := Lib.hid (HR.out.on hb)
  replace KW := Lib.hid (KW.out.trans (hb.mono KW.out.size))
  clear hb
  go_wp2_with fail
  refine (rsmall_any _ t 9 w1 HR.out).mono ?_
  rintro e ws ⟨rfl, rfl⟩
  cases hs : smB t 9 with
  | false =>
    go_wp2
    go_ret
    exact ⟨rfl, KW.out⟩
  | true =>
    have HSA := Lib.hid hs
    clear hs
    have hn : t.length ≤ 9 := by have := (smB_of HSA.out).1; omega
    have HN := Lib.hid (And.intro hn trivial)
    clear HSA
    go_wp2_with fail
    refine (layers_any _ t _ HR.out (by omega)).mono ?_
    rintro e w2 ⟨va, BB, LF, rfl, hol, hll, hb⟩
    have HA := Lib.hid (And.intro hol hll)
    obtain ⟨fa, hfa, -⟩ := hol
    obtain ⟨aa, ac, rfl⟩ := row_slc hfa
    clear hfa
    replace HR := Lib.hid (HR.out.on hb)
    replace KW := Lib.hid (KW.out.trans (hb.mono KW.out.size))
    clear hb
    clear hll
    go_wp2_with fail
    refine (rlayers_any _ t _ HR.out (by omega)).mono ?_
    rintro e w3 ⟨vb, rfl, hoz⟩
    have HZ := Lib.hid hoz
    have HB23 := Lib.hid hoz.1
    have hb := hoz.1
    obtain ⟨ba, bc, rfl⟩ := hoz.slc
    replace HR := Lib.hid (HR.out.on hb)
    replace KW := Lib.hid (KW.out.trans (hb.mono KW.out.size))
    clear hb
    clear hoz
    have hLn : (layE t).length ≤ 9 := by unfold layE; rw [List.length_map, List.length_range]; have := nl_le t t.length; omega
    have hLr : ∀ k (h : k < (layE t).length), (layE t)[k].length ≤ 9 := by
      intro k h
      have h1 : (layE t)[k] = sortI (lyN t t.length k) := layK_get (t := t) (i := t.length) (m := nl t t.length) h
      rw [h1, sortI_len]
      exact Nat.le_trans (lyN_len t t.length k) hn
    have HLR := Lib.hid hLr
    have hne0 : (((layE t).length : Int) != ((layE t).length : Int)) = false := by simp
    clear hLr
    generalize layE t = LL at *
    go_wp2
    clear hne0
    go_loopg [5, 6] LL.length (fun m ix _ wr => ∃ p : Nat, m + p = LL.length ∧ ix = .int .i64 p ∧ Below w3.heap.size w3 wr)
    case atStart => exact ⟨0, by omega, rfl, Below.refl _ _⟩
    case round =>
      rename World => w4
      obtain ⟨p, hmp, rfl, hb4⟩ := hrel
      have HM := Lib.hid hmp
      have K4 := Lib.hid hb4
      have hp : p ≤ LL.length := by omega
      have hp0 : (0 : Int) ≤ (p : Int) := by omega
      clear hmp hb4
      by_cases hpl : p < LL.length
      · have hpi : (p : Int) < LL.length := by omega
        have HPL := Lib.hid (And.intro hpl trivial)
        obtain ⟨ga, ua, uc, e1, hca, hra⟩ := OutL.cell HA.out.1 hpl
        subst e1
        rw [HA.out.2 p hpl] at hca hra
        obtain ⟨gz, g2, c2, e1, hcz, hrz⟩ := HZ.out.cell hpl
        subst e1
        have HCA := Lib.hid (fun wq (hq : Below w4.heap.size w4 wq) => hca wq (HB23.out.trans ((K4.out.trans (hq.mono K4.out.size)).mono HB23.out.size)))
        have HRA := Lib.hid (fun wq (hq : Below w4.heap.size w4 wq) => hra.keep (HB23.out.trans ((K4.out.trans (hq.mono K4.out.size)).mono HB23.out.size)))
        have HCZ := Lib.hid (fun wq (hq : Below w4.heap.size w4 wq) => hcz wq (K4.out.trans (hq.mono K4.out.size)))
        have HRZ := Lib.hid (fun wq (hq : Below w4.heap.size w4 wq) => hrz.reads.keep (K4.out.trans (hq.mono K4.out.size)))
        have hxl := HLR.out p hpl
        generalize LL[p] = xs at *
        clear hpl hca hra hcz hrz
        have hne : ((xs.length : Int) != (xs.length : Int)) = false := by simp
        go_wp2_with fail
        refine region_left [.is (.slice (some ⟨ga, 0, none⟩) LL.length ac), .is (.int .i64 (p : Int)), .is (.pointer (some ⟨ga, p, none⟩)), .is (.slice ua xs.length uc), .is (.int .i64 (xs.length : Int)), .is (.slice (some ⟨gz, 0, none⟩) LL.length bc), .is (.int .i64 (p : Int)), .is (.pointer (some ⟨gz, p, none⟩)), .is (.slice (some ⟨g2, 0, none⟩) xs.length c2), .is (.int .i64 (xs.length : Int)), .is (.bool false)] (by kernel_rfl) rfl (by kernel_rfl) (by kernel_rfl) (.cons ?a0 (.cons ?a1 (.cons ?a2 (.cons ?a3 (.cons ?a4 (.cons ?a5 (.cons ?a6 (.cons ?a7 (.cons ?a8 (.cons ?a9 (.cons ?a10 .nil))))))))))) ?afin
        case a0 =>
          intro wq hbw st  K hK
          simp only [Act.put, List.setIfInBounds_toArray, List.set_cons_zero, List.set_cons_succ] at hK ⊢
          unfold opStep
          rw [if_pos (by rfl)]
          go_simp
          exact hK.out _ _ (Below.refl _ _) rfl _ rfl
        case a1 =>
          intro wq hbw st  K hK
          simp only [Act.put, List.setIfInBounds_toArray, List.set_cons_zero, List.set_cons_succ] at hK ⊢
          unfold opStep
          rw [if_pos (by rfl)]
          go_simp
          exact hK.out _ _ (Below.refl _ _) rfl _ rfl
        case a2 =>
          intro wq hbw st  K hK
          simp only [Act.put, List.setIfInBounds_toArray, List.set_cons_zero, List.set_cons_succ] at hK ⊢
          unfold opStep
          rw [if_pos (by rfl)]
          go_simp
          exact hK.out _ _ (Below.refl _ _) rfl _ rfl
        case a3 =>
          intro wq hbw st  K hK
          simp only [Act.put, List.setIfInBounds_toArray, List.set_cons_zero, List.set_cons_succ] at hK ⊢
          unfold opStep
          rw [if_pos (by rfl)]
          have d0 := HCA.out wq hbw
          go_simp
          exact hK.out _ _ (Below.refl _ _) rfl _ rfl
        case a4 =>
          intro wq hbw st  K hK
          simp only [Act.put, List.setIfInBounds_toArray, List.set_cons_zero, List.set_cons_succ] at hK ⊢
          unfold opStep
          rw [if_pos (by rfl)]
          go_simp
          exact hK.out _ _ (Below.refl _ _) rfl _ rfl
        case a5 =>
          intro wq hbw st  K hK
          simp only [Act.put, List.setIfInBounds_toArray, List.set_cons_zero, List.set_cons_succ] at hK ⊢
          unfold opStep
          rw [if_pos (by rfl)]
          go_simp
          exact hK.out _ _ (Below.refl _ _) rfl _ rfl
        case a6 =>
          intro wq hbw st  K hK
          simp only [Act.put, List.setIfInBounds_toArray, List.set_cons_zero, List.set_cons_succ] at hK ⊢
          unfold opStep
          rw [if_pos (by rfl)]
          go_simp
          exact hK.out _ _ (Below.refl _ _) rfl _ rfl
        case a7 =>
          intro wq hbw st  K hK
          simp only [Act.put, List.setIfInBounds_toArray, List.set_cons_zero, List.set_cons_succ] at hK ⊢
          unfold opStep
          rw [if_pos (by rfl)]
          go_simp
          exact hK.out _ _ (Below.refl _ _) rfl _ rfl
        case a8 =>
          intro wq hbw st  K hK
          simp only [Act.put, List.setIfInBounds_toArray, List.set_cons_zero, List.set_cons_succ] at hK ⊢
          unfold opStep
          rw [if_pos (by rfl)]
          have d0 := HCZ.out wq hbw
          go_simp
          exact hK.out _ _ (Below.refl _ _) rfl _ rfl
        case a9 =>
          intro wq hbw st  K hK
          simp only [Act.put, List.setIfInBounds_toArray, List.set_cons_zero, List.set_cons_succ] at hK ⊢
          unfold opStep
          rw [if_pos (by rfl)]
          go_simp
          exact hK.out _ _ (Below.refl _ _) rfl _ rfl
        case a10 =>
          intro wq hbw st  K hK
          simp only [Act.put, List.setIfInBounds_toArray, List.set_cons_zero, List.set_cons_succ] at hK ⊢
          unfold opStep
          rw [if_pos (by rfl)]
          go_simp
          exact hK.out _ _ (Below.refl _ _) rfl _ rfl
        case afin =>
          intro wq hbw
          try simp only [FinAll]
          simp only [Act.put, List.setIfInBounds_toArray, List.set_cons_zero, List.set_cons_succ]
          have HB6 := Lib.hid hbw
          have d0 := HCA.out wq hbw
          clear hbw hne
          obtain ⟨G1, hG1⟩ : ∃ G, G = gk := ⟨_, rfl⟩
          subst hG1
          go_wp2
          clear d0
          go_loopg [6] xs.length (fun m kx wr => ∃ k : Nat, m + k = xs.length ∧ kx = .int .i64 k ∧ Below w4.heap.size w4 wr)
          case atStart => exact ⟨0, by omega, rfl, HB6.out⟩
          case round =>
            rename World => w6
            obtain ⟨k, hmk, rfl, hb6⟩ := hrel
            have HM2 := Lib.hid hmk
            have K6 := Lib.hid hb6
            have hk : k ≤ xs.length := by omega
            have hk0 : (0 : Int) ≤ (k : Int) := by omega
            have d0 := HCA.out w6 hb6
            clear hmk hb6
            by_cases hkl : k < xs.length
            · have hki : (k : Int) < xs.length := by omega
              have HKL := Lib.hid (And.intro hkl trivial)
              obtain ⟨b1, o1, c1', e1, -, -⟩ := int_at (HRA.out w6 K6.out) hkl
              injection e1 with e1 _ e3
              subst e1
              have HI1 : Hid (∀ wq, Below w6.heap.size w6 wq → wq.cell? ⟨b1, o1 + k, none⟩ = some (vi xs[k])) := Lib.hid fun wq hq => by
                obtain ⟨b', o', c', e, -, q⟩ := int_at (HRA.out wq (K6.out.trans (hq.mono K6.out.size))) hkl
                injection e with e _ _
                injection e with e
                injection e with e4 e5
                subst e4 e5
                exact q
              have HI2 : Hid (∀ wq, Below w6.heap.size w6 wq → wq.cell? ⟨g2, k, none⟩ = some (vi xs[k])) := Lib.hid fun wq hq => by
                obtain ⟨b', o', c', e, -, q⟩ := int_at (HRZ.out wq (K6.out.trans (hq.mono K6.out.size))) hkl
                injection e with e _ _
                injection e with e
                injection e with e4 e5
                subst e4 e5
                rwa [Nat.zero_add] at q
              clear e3
              generalize xs[k] = y at *
              clear hkl
              have hne : (y != y) = false := by simp
              go_wp2_with fail
              refine region_left [.is (.slice (some ⟨ga, 0, none⟩) LL.length ac), .is (.int .i64 (p : Int)), .is (.pointer (some ⟨ga, p, none⟩)), .is (.slice (some ⟨b1, o1, none⟩) xs.length uc), .is (.int .i64 (k : Int)), .is (.pointer (some ⟨b1, o1 + k, none⟩)), .is (.int .i64 y), .is (.slice (some ⟨gz, 0, none⟩) LL.length bc), .is (.int .i64 (p : Int)), .is (.pointer (some ⟨gz, p, none⟩)), .is (.slice (some ⟨g2, 0, none⟩) xs.length c2), .is (.int .i64 (k : Int)), .is (.pointer (some ⟨g2, k, none⟩)), .is (.int .i64 y), .is (.bool false)] (by kernel_rfl) rfl (by kernel_rfl) (by kernel_rfl) (.cons ?b0 (.cons ?b1 (.cons ?b2 (.cons ?b3 (.cons ?b4 (.cons ?b5 (.cons ?b6 (.cons ?b7 (.cons ?b8 (.cons ?b9 (.cons ?b10 (.cons ?b11 (.cons ?b12 (.cons ?b13 (.cons ?b14 .nil))))))))))))))) ?bfin
              case b0 =>
                intro wq hbw st  K hK
                simp only [Act.put, List.setIfInBounds_toArray, List.set_cons_zero, List.set_cons_succ] at hK ⊢
                unfold opStep
                rw [if_pos (by rfl)]
                go_simp
                exact hK.out _ _ (Below.refl _ _) rfl _ rfl
              case b1 =>
                intro wq hbw st  K hK
                simp only [Act.put, List.setIfInBounds_toArray, List.set_cons_zero, List.set_cons_succ] at hK ⊢
                unfold opStep
                rw [if_pos (by rfl)]
                go_simp
                exact hK.out _ _ (Below.refl _ _) rfl _ rfl
              case b2 =>
                intro wq hbw st  K hK
                simp only [Act.put, List.setIfInBounds_toArray, List.set_cons_zero, List.set_cons_succ] at hK ⊢
                unfold opStep
                rw [if_pos (by rfl)]
                go_simp
                exact hK.out _ _ (Below.refl _ _) rfl _ rfl
              case b3 =>
                intro wq hbw st  K hK
                simp only [Act.put, List.setIfInBounds_toArray, List.set_cons_zero, List.set_cons_succ] at hK ⊢
                unfold opStep
                rw [if_pos (by rfl)]
                have d1 := HCA.out wq (K6.out.trans (hbw.mono K6.out.size))
                go_simp
                exact hK.out _ _ (Below.refl _ _) rfl _ rfl
              case b4 =>
                intro wq hbw st  K hK
                simp only [Act.put, List.setIfInBounds_toArray, List.set_cons_zero, List.set_cons_succ] at hK ⊢
                unfold opStep
                rw [if_pos (by rfl)]
                go_simp
                exact hK.out _ _ (Below.refl _ _) rfl _ rfl
              case b5 =>
                intro wq hbw st  K hK
                simp only [Act.put, List.setIfInBounds_toArray, List.set_cons_zero, List.set_cons_succ] at hK ⊢
                unfold opStep
                rw [if_pos (by rfl)]
                go_simp
                exact hK.out _ _ (Below.refl _ _) rfl _ rfl
              case b6 =>
                intro wq hbw st  K hK
                simp only [Act.put, List.setIfInBounds_toArray, List.set_cons_zero, List.set_cons_succ] at hK ⊢
                unfold opStep
                rw [if_pos (by rfl)]
                have d1 := HI1.out wq hbw
                unfold vi at d1
                go_simp
                exact hK.out _ _ (Below.refl _ _) rfl _ rfl
              case b7 =>
                intro wq hbw st  K hK
                simp only [Act.put, List.setIfInBounds_toArray, List.set_cons_zero, List.set_cons_succ] at hK ⊢
                unfold opStep
                rw [if_pos (by rfl)]
                go_simp
                exact hK.out _ _ (Below.refl _ _) rfl _ rfl
              case b8 =>
                intro wq hbw st  K hK
                simp only [Act.put, List.setIfInBounds_toArray, List.set_cons_zero, List.set_cons_succ] at hK ⊢
                unfold opStep
                rw [if_pos (by rfl)]
                go_simp
                exact hK.out _ _ (Below.refl _ _) rfl _ rfl
              case b9 =>
                intro wq hbw st  K hK
                simp only [Act.put, List.setIfInBounds_toArray, List.set_cons_zero, List.set_cons_succ] at hK ⊢
                unfold opStep
                rw [if_pos (by rfl)]
                go_simp
                exact hK.out _ _ (Below.refl _ _) rfl _ rfl
              case b10 =>
                intro wq hbw st  K hK
                simp only [Act.put, List.setIfInBounds_toArray, List.set_cons_zero, List.set_cons_succ] at hK ⊢
                unfold opStep
                rw [if_pos (by rfl)]
                have d1 := HCZ.out wq (K6.out.trans (hbw.mono K6.out.size))
                go_simp
                exact hK.out _ _ (Below.refl _ _) rfl _ rfl
              case b11 =>
                intro wq hbw st  K hK
                simp only [Act.put, List.setIfInBounds_toArray, List.set_cons_zero, List.set_cons_succ] at hK ⊢
                unfold opStep
                rw [if_pos (by rfl)]
                go_simp
                exact hK.out _ _ (Below.refl _ _) rfl _ rfl
              case b12 =>
                intro wq hbw st  K hK
                simp only [Act.put, List.setIfInBounds_toArray, List.set_cons_zero, List.set_cons_succ] at hK ⊢
                unfold opStep
                rw [if_pos (by rfl)]
                go_simp
                exact hK.out _ _ (Below.refl _ _) rfl _ rfl
              case b13 =>
                intro wq hbw st  K hK
                simp only [Act.put, List.setIfInBounds_toArray, List.set_cons_zero, List.set_cons_succ] at hK ⊢
                unfold opStep
                rw [if_pos (by rfl)]
                have d1 := HI2.out wq hbw
                unfold vi at d1
                go_simp
                exact hK.out _ _ (Below.refl _ _) rfl _ rfl
              case b14 =>
                intro wq hbw st  K hK
                simp only [Act.put, List.setIfInBounds_toArray, List.set_cons_zero, List.set_cons_succ] at hK ⊢
                unfold opStep
                rw [if_pos (by rfl)]
                go_simp
                exact hK.out _ _ (Below.refl _ _) rfl _ rfl
              case bfin =>
                intro wq hbw
                try simp only [FinAll]
                simp only [Act.put, List.setIfInBounds_toArray, List.set_cons_zero, List.set_cons_succ]
                have K7 := Lib.hid (K6.out.trans (hbw.mono K6.out.size))
                clear hbw hne d0
                go_wp2
                go_roundg (xs.length - (k + 1))
                case measure => have := HM2.out; have := HKL.out.1; omega
                case rel => exact ⟨k + 1, by have := HKL.out.1; omega, by go_num, K7.out⟩
            · have hki : ¬ (k : Int) < xs.length := by omega
              have K7 := Lib.hid (K4.out.trans (K6.out.mono K4.out.size))
              go_wp2
              go_roundg (LL.length - (p + 1))
              case measure => have := HM.out; have := HPL.out.1; omega
              case rel => exact ⟨p + 1, by have := HPL.out.1; omega, by go_num, K7.out⟩
      · have hpi : ¬ (p : Int) < LL.length := by omega
        have hb := K4.out
        replace HR := Lib.hid (HR.out.on hb)
        replace KW := Lib.hid (KW.out.trans (hb.mono KW.out.size))
        clear hb
        clear HA HZ HB23 K4 HM HLR
        go_wp2_with fail
        refine (before_any _ t _ HR.out (by omega)).mono ?_
        rintro e w5 ⟨vp, rfl, hpr, hb⟩
        have HP := Lib.hid hpr
        obtain ⟨pa, pc, rfl⟩ := row_slc hpr
        replace HR := Lib.hid (HR.out.on hb)
        replace KW := Lib.hid (KW.out.trans (hb.mono KW.out.size))
        clear hb
        clear hpr hp hp0 hpi
        have hpl9 : (bfE t).length ≤ 81 := by
          have h1 := bfL_len t t.length
          have h2 : t.length * t.length ≤ 9 * 9 := Nat.mul_le_mul hn hn
          unfold bfE; omega
        go_wp2
        go_loopg [8, 9, 10] t.length (fun m nx ix _ wr => ∃ i : Nat, m + i = t.length ∧ ix = .int .i64 i ∧ nx = .int .i64 ((bfL t i).length : Nat) ∧ Below w5.heap.size w5 wr)
        case atStart => exact ⟨0, by omega, rfl, rfl, Below.refl _ _⟩
        case round =>
          rename World => w6
          obtain ⟨i, hmi, rfl, rfl, hb6⟩ := hrel
          have HM := Lib.hid hmi
          have K6 := Lib.hid hb6
          have hi : i ≤ t.length := by omega
          have hi0 : (0 : Int) ≤ (i : Int) := by omega
          have hbl : (bfL t i).length ≤ 81 := Nat.le_trans (bfL_pre t i hi).length_le hpl9
          clear hmi hb6
          by_cases hil : i < t.length
          · have hii : (i : Int) < t.length := by omega
            have HIL := Lib.hid (And.intro hil trivial)
            clear hil
            obtain ⟨G1, hG1⟩ : ∃ G, G = gk := ⟨_, rfl⟩
            subst hG1
            go_wp2
            go_loopg [8, 10] t.length (fun m nx kx wr => ∃ k : Nat, m + k = t.length + (i + 1) ∧ k ≤ t.length ∧ i < k ∧ kx = .int .i64 k ∧ nx = .int .i64 ((bfP t i k).length : Nat) ∧ Below w5.heap.size w5 wr)
            case atStart => exact ⟨i + 1, rfl, by have := HIL.out.1; omega, by omega, by go_num, by rw [bfP_start], K6.out⟩
            case round =>
              rename World => w7
              obtain ⟨k, hmk, hkt, hik, rfl, rfl, hb7⟩ := hrel
              have HM2 := Lib.hid (And.intro hmk (And.intro hkt hik))
              have K7 := Lib.hid hb7
              have hk0 : (0 : Int) ≤ (k : Int) := by omega
              have hbp : (bfP t i k).length ≤ (bfE t).length := bfP_len HIL.out.1 hkt
              clear hmk hik hb7
              by_cases hkl : k < t.length
              · have hki : (k : Int) < t.length := by omega
                have HKL := Lib.hid (And.intro hkl trivial)
                have HYES := Lib.hid (@bfP_yes t i k)
                have HNO := Lib.hid (@bfP_no t i k)
                have HNEXT := Lib.hid (fun h => @bfP_next t i k HIL.out.1 hkl h)
                clear hkl
                go_wp2_with fail
                refine (rreach_any t (by omega) k HKL.out.1 _ i _ w7 rfl HIL.out.1 (HR.out.on K7.out)).mono ?_
                rintro e w8 ⟨rfl, hb8⟩
                have K8 := Lib.hid (K7.out.trans (hb8.mono K7.out.size))
                clear hb8 K7
                cases hrr : rch t i k with
                | false =>
                  have HL := Lib.hid (HNO.out hrr)
                  clear hrr HYES HNO HNEXT
                  go_wp2
                  go_roundg (t.length + i - k)
                  case measure => have := HM2.out; have := HKL.out.1; omega
                  case rel => exact ⟨k + 1, by have := HM2.out; have := HKL.out.1; omega, by have := HKL.out.1; omega, by have := HM2.out; omega, by go_num, by rw [HL.out], K8.out⟩
                | true =>
                  have HL := Lib.hid (HYES.out hrr)
                  obtain ⟨hnp, hnx⟩ := HNEXT.out hrr
                  have HPG := Lib.hid (row_at HP.out (show 0 < (bfE t).length by omega))
                  obtain ⟨gp, e1, -, hcp⟩ := HPG.out
                  subst e1
                  obtain ⟨g1, g2⟩ := prC_get hnp
                  rw [hnx] at g1 g2
                  have HCP := Lib.hid (fun wq (hq : Below w8.heap.size w8 wq) => And.intro (hcp wq (K8.out.trans (hq.mono K8.out.size)) _ _ g1) (hcp wq (K8.out.trans (hq.mono K8.out.size)) _ _ g2))
                  have HLE : Hid ((bfP t i (k + 1)).length = (bfP t i k).length + 1) := Lib.hid (by rw [HL.out, List.length_append]; rfl)
                  clear hrr HYES HNO HNEXT hnx HPG hcp g1 g2 HL hbp
                  generalize (bfP t i k).length = n0 at *
                  have hnp2 : ¬ ((bfE t).length : Int) ≤ (n0 : Int) := by omega
                  have hnp3 : (n0 : Int) < ((bfE t).length : Int) := by omega
                  have hn00 : (0 : Int) ≤ (n0 : Int) := by omega
                  generalize bfE t = PL at *
                  obtain ⟨c0, c1⟩ := HCP.out w8 (Below.refl _ _)
                  have K9 := K8
                  clear HCP
                  go_wp2
                  go_roundg (t.length + i - k)
                  case measure => have := HM2.out; have := HKL.out.1; omega
                  case rel => exact ⟨k + 1, by have := HM2.out; have := HKL.out.1; omega, by have := HKL.out.1; omega, by have := HM2.out; omega, by go_num, by rw [HLE.out]; go_num, K9.out⟩
              · have e : k = t.length := by omega
                have HE := Lib.hid e
                have hki : ¬ (k : Int) < t.length := by omega
                clear e
                go_wp2
                go_roundg (t.length - (i + 1))
                case measure => have := HM.out; have := HIL.out.1; omega
                case rel => exact ⟨i + 1, by have := HIL.out.1; omega, by go_num, by rw [HE.out, bfP_row], K7.out⟩
          · have e : i = t.length := by omega
            have HE : Hid ((bfL t i).length = (bfE t).length) := Lib.hid (by rw [e]; rfl)
            have hii : ¬ (i : Int) < t.length := by omega
            have KF := Lib.hid (KW.out.trans (K6.out.mono KW.out.size))
            have heq : (((bfL t i).length : Int) == ((bfE t).length : Int)) = true := by rw [HE.out]; simp
            clear e
            go_wp2
            go_ret
            exact ⟨rfl, KF.out⟩

set_option maxRecDepth 100000 in
theorem lifted (os : Os) (started : os.Started) (H : Type) (enc : TypeId × Value → H) :
    ReturnsInHanded {} Try.checked os 8 .any (Rows.scheduleLayersSpec.pre6 enc Try.prog Try.f8 Rows.scheduleLayersRow.domain false) (Rows.scheduleLayersSpec.post enc Try.prog Try.f8 false true false false) := by
  refine returnsInHanded_of_change (C := Try.checked) own started (by kernel_rfl) Try.func8
    (ChangeSpec.witness6 (enc := enc) (C := Try.checked) false ⟨#[], #[.slice none 0 0], []⟩ 8 (by kernel_rfl) (by kernel_rfl) (by kernel_rfl) (by kernel_rfl)) ?_
  intro W base args ds gs before hval0 hW hcnd _
  have hval : ∀ (j : Nat) t v, Try.f8.params[j]? = some t → args[j]? = some v → Value.okWide Try.prog W .any base t v := hval0
  have hW' := hW
  obtain ⟨p, q, hA0, hV, rfl, hfz, hnd⟩ := hW
  have hA : DataW.TrodAll enc Try.prog W 0 (fun _ => true) true Try.f8.params.toList args.toList ds p := hA0
  rw [Try.params8] at hA hval
  obtain ⟨v0, vs0, d0, ds0, p0, q0, hargs, rfl, rfl, t0, r0⟩ := trodAll_cons hA
  obtain ⟨rfl, rfl, rfl⟩ := trodAll_nil r0
  obtain rfl : args = #[v0] := by cases args; simp_all
  obtain ⟨rfl, rfl⟩ := trodVars_none hV
  obtain ⟨x0, h0⟩ := open_tr (hval 0 22 v0 rfl rfl) t0
  refine (walk v0 x0 W h0).mono fun e W' ⟨he, hb⟩ => ?_
  subst he
  exact ⟨_, rfl, law_post laidOut rfl (fun _ _ => rfl) (by kernel_rfl) Try.underlying4 (by rw [Try.params8]; exact fun t ht => by simp at ht; rcases ht with  rfl ; all_goals exact ⟨by kernel_rfl, of_decide_eq_true (by kernel_rfl)⟩) hW' hb⟩

theorem over : Rows.scheduleLayersRow.holds Try.pinned (OpenSpec.ofChange Rows.scheduleLayersSpec) :=
  OpenClaim.holds_of_wide 8 Try.f8 rfl rfl rfl rfl rfl rfl rfl ⟨rfl, rfl, rfl, rfl, rfl⟩ rfl rfl rfl rfl rfl (by kernel_rfl) Try.func8 (by kernel_rfl)
    (of_decide_eq_true (by kernel_rfl)) (by unfold Func.isWrapper; first | (rw [if_pos (by decide +kernel)]; kernel_rfl) | (rw [if_neg (by decide +kernel)]; exact ⟨rfl, rfl⟩))
    (fun os started H enc _ => lifted os started H enc)

theorem proved : Rows.ScheduleLayersSaid := over
end Go.Proofs.Ytfdicndmebhmdaa.scheduleLayers
