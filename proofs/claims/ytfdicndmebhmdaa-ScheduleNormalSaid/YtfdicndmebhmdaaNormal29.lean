/-
  ScheduleNormal: for all arguments the law returns true, and what came in reads behind the call as before. No condition.
-/
import Derived.Test.YtfdicndmebhmdaaNn
import Derived.Test.YtfdicndmebhmdaaNa
import Derived.Test.YtfdicndmebhmdaaHq
import Derived.Deep.DeepCutAuto
namespace Go.Proofs.Ytfdicndmebhmdaa.scheduleNormal
open Go.ChangeShapes Go.WideShapes Go.ChangeAt Go.RowKit

theorem indK_pre (t : List Ev) (k : Nat) : ∀ m : Nat, k ≤ m → ∃ r, indK t m = indK t k ++ r
  | 0, h => by have : k = 0 := by omega
               subst this; exact ⟨[], by simp⟩
  | m + 1, h => by
    by_cases e : k = m + 1
    · subst e; exact ⟨[], by simp⟩
    · obtain ⟨r, hr⟩ := indK_pre t k m (by omega)
      by_cases hd : depI t m (m + 1) = true
      · exact ⟨r, by rw [indK_no hd]; exact hr⟩
      · rw [Bool.not_eq_true] at hd
        exact ⟨r ++ [m], by rw [indK_yes hd, hr, List.append_assoc]⟩
theorem ind_at {t : List Ev} {i : Nat} (hi : i + 1 < t.length) (hd : depI t i (i + 1) = false) : (indE t)[(indK t i).length]? = some i ∧ (indK t i).length < (indE t).length := by
  obtain ⟨r, hr⟩ := indK_pre t (i + 1) (t.length - 1) (by omega)
  rw [indK_yes hd, List.append_assoc] at hr
  unfold indE
  rw [hr]
  refine ⟨?_, by simp⟩
  rw [List.getElem?_append_right (Nat.le_refl _), Nat.sub_self]
  rfl
theorem depI_eq {t : List Ev} {i k : Nat} (hi : i < t.length) (hk : k < t.length) : depI t i k = depE t[i] t[k] := by
  unfold depI; rw [nthE_eq hi, nthE_eq hk]
def mI (t : List Ev) (p : Nat) : Nat := if p < t.length - 1 then p else t.length - 1
set_option maxRecDepth 100000 in
set_option maxHeartbeats 16000000 in
theorem walk (v : Value) (t : List Ev) (W : World) (hr : ReadsE W v t) : Calls Try.prog 3 #[v] W (BoolMade W true) := by
  have HR := Lib.hid hr
  obtain ⟨ao, cap, rfl, hl, hm, -, -⟩ := hr
  unfold maxLen at hm
  go_enter Try.func3, Try.ntmps3
  have KW := Lib.hid (Below.refl W.heap.size W)
  go_wp2_with fail
  refine (awake_any _).mono ?_
  rintro e w1 ⟨rfl, hb⟩
  replace HR := Lib.hid (HR.out.on hb)
  replace KW := Lib.hid (KW.out.trans (hb.mono KW.out.size))
  clear hb
  go_wp2_with fail
  refine (rsmall_any _ t 12 w1 HR.out).mono ?_
  rintro e ws ⟨rfl, rfl⟩
  cases hs : smB t 12 with
  | false =>
    go_wp2
    go_ret
    exact ⟨rfl, KW.out⟩
  | true =>
    have HSA := Lib.hid hs
    clear hs
    have HST := Lib.hid (SmallT.of HSA.out (by decide))
    have hn : t.length ≤ 12 := by have := (smB_of HSA.out).1; omega
    have HN := Lib.hid hn
    clear HSA
    go_wp2_with fail
    refine (indep_any _ t _ HR.out (by omega)).mono ?_
    rintro e w2 ⟨vi2, rfl, hi2, hb⟩
    obtain ⟨ia, ic, rfl⟩ := row_slc hi2
    have HA := Lib.hid hi2
    replace HR := Lib.hid (HR.out.on hb)
    replace KW := Lib.hid (KW.out.trans (hb.mono KW.out.size))
    clear hb
    clear hi2
    have hal : (indE t).length ≤ 1000 := by have := indK_len t (t.length - 1); unfold indE; omega
    go_wp2
    go_loopg [4, 5, 6] t.length (fun m nx ix _ wr => ∃ p : Nat, m + p = t.length ∧ ix = .int .i64 p ∧ nx = .int .i64 ((indK t (mI t p)).length : Nat) ∧ Below w2.heap.size w2 wr)
    case atStart => exact ⟨0, by omega, rfl, by unfold mI; split <;> (try rw [show t.length - 1 = 0 by omega]) <;> rfl, Below.refl _ _⟩
    case round =>
      rename World => w3
      obtain ⟨p, hmp, rfl, rfl, hb3⟩ := hrel
      have HM := Lib.hid hmp
      have K3 := Lib.hid hb3
      have KR := Lib.hid (HR.out.on hb3)
      have hp : p ≤ t.length := by omega
      have hkl3 := indK_len t (mI t p)
      have hmi3 : mI t p ≤ 12 := by unfold mI; split <;> omega
      clear hmp hb3
      by_cases hlt : p < t.length
      · have hpi : (p : Int) < t.length := by omega
        have hp0 : (0 : Int) ≤ (p : Int) := by omega
        have HLT := Lib.hid hlt
        clear hlt
        go_wp2
        go_loopg [6] t.length (fun m kx wr => ∃ k : Nat, m + k = t.length ∧ kx = .int .i64 k ∧ Below w3.heap.size w3 wr)
        case atStart => exact ⟨0, by omega, rfl, Below.refl _ _⟩
        case round =>
          rename World => w4
          obtain ⟨k, hmk, rfl, hb4⟩ := hrel
          have HM2 := Lib.hid hmk
          have K4 := Lib.hid hb4
          have KW4 := Lib.hid (KR.out.on hb4)
          have hk : k ≤ t.length := by omega
          clear hmk hb4
          by_cases hkt : k < t.length
          · have hki : (k : Int) < t.length := by omega
            have hk0 : (0 : Int) ≤ (k : Int) := by omega
            have hlt := HLT.out
            have HKT := Lib.hid hkt
            obtain ⟨b, off, cap1, s1, c1, hv, hcell, r1⟩ := KW4.out.at2 hlt
            injection hv with e1 e2 e3
            subst e1
            obtain ⟨b', off', cap2, s2, c2, hv, hcell', r2⟩ := KW4.out.at2 hkt
            injection hv with e1 e2' e3'
            injection e1 with e1
            injection e1 with e1 e4
            subst e1 e4
            have hdi : depI t p k = depE t[p] t[k] := depI_eq hlt hkt
            have HX := Lib.hid (And.intro hcell r1)
            have HY := Lib.hid (And.intro hcell' r2)
            clear e2 e3 e2' e3' hcell hcell' r1 r2
            generalize t[p] = x at *
            generalize t[k] = y at *
            clear hdi hlt hkt
            generalize hd : depE x y = d at *
            have HD := Lib.hid hd
            clear hd
            go_wp2_with fail
            refine region_left [.is (.slice (some ⟨b, off, none⟩) t.length cap), .is (.int .i64 (p : Int)), .is (.pointer (some ⟨b, off + p * 2, none⟩)), .is (.agg #[.int .i64 x.1, .slice s1 x.2.length c1]), .is (.slice (some ⟨b, off, none⟩) t.length cap), .is (.int .i64 (k : Int)), .is (.pointer (some ⟨b, off + k * 2, none⟩)), .is (.agg #[.int .i64 y.1, .slice s2 y.2.length c2]), .is (.bool d), .is (.slice (some ⟨b, off, none⟩) t.length cap), .is (.int .i64 (p : Int)), .is (.pointer (some ⟨b, off + p * 2, none⟩)), .is (.agg #[.int .i64 x.1, .slice s1 x.2.length c1]), .is (.slice (some ⟨b, off, none⟩) t.length cap), .is (.int .i64 (k : Int)), .is (.pointer (some ⟨b, off + k * 2, none⟩)), .is (.agg #[.int .i64 y.1, .slice s2 y.2.length c2]), .is (.bool d), .is (.bool false)] (by kernel_rfl) rfl (by kernel_rfl) (by kernel_rfl) (.cons ?a0 (.cons ?a1 (.cons ?a2 (.cons ?a3 (.cons ?a4 (.cons ?a5 (.cons ?a6 (.cons ?a7 (.cons ?a8 (.cons ?a9 (.cons ?a10 (.cons ?a11 (.cons ?a12 (.cons ?a13 (.cons ?a14 (.cons ?a15 (.cons ?a16 (.cons ?a17 (.cons ?a18 .nil))))))))))))))))))) ?afin
            case a0 =>
              intro wq hbw st  K hK
              simp only [Act.put, List.setIfInBounds_toArray, List.set_cons_zero, List.set_cons_succ] at hK ⊢
              unfold opStep
              rw [if_pos (by rfl)]
              go_simp
              exact hK.out _ _ (Below.refl _ _) rfl _ rfl
            case a1 =>
              intro wq hbw st  K hK
              simp only [Act.put, List.setIfInBounds_toArray, List.set_cons_zero, List.set_cons_succ] at hK ⊢
              unfold opStep
              rw [if_pos (by rfl)]
              go_simp
              exact hK.out _ _ (Below.refl _ _) rfl _ rfl
            case a2 =>
              intro wq hbw st  K hK
              simp only [Act.put, List.setIfInBounds_toArray, List.set_cons_zero, List.set_cons_succ] at hK ⊢
              unfold opStep
              rw [if_pos (by rfl)]
              go_simp
              exact hK.out _ _ (Below.refl _ _) rfl _ rfl
            case a3 =>
              intro wq hbw st  K hK
              simp only [Act.put, List.setIfInBounds_toArray, List.set_cons_zero, List.set_cons_succ] at hK ⊢
              unfold opStep
              rw [if_pos (by rfl)]
              have dd := Lib.hid (HX.out.1 _ hbw)
              have d0 := dd.out.1
              have d1 := dd.out.2
              go_simp
              exact hK.out _ _ (Below.refl _ _) rfl _ rfl
            case a4 =>
              intro wq hbw st  K hK
              simp only [Act.put, List.setIfInBounds_toArray, List.set_cons_zero, List.set_cons_succ] at hK ⊢
              unfold opStep
              rw [if_pos (by rfl)]
              go_simp
              exact hK.out _ _ (Below.refl _ _) rfl _ rfl
            case a5 =>
              intro wq hbw st  K hK
              simp only [Act.put, List.setIfInBounds_toArray, List.set_cons_zero, List.set_cons_succ] at hK ⊢
              unfold opStep
              rw [if_pos (by rfl)]
              go_simp
              exact hK.out _ _ (Below.refl _ _) rfl _ rfl
            case a6 =>
              intro wq hbw st  K hK
              simp only [Act.put, List.setIfInBounds_toArray, List.set_cons_zero, List.set_cons_succ] at hK ⊢
              unfold opStep
              rw [if_pos (by rfl)]
              go_simp
              exact hK.out _ _ (Below.refl _ _) rfl _ rfl
            case a7 =>
              intro wq hbw st  K hK
              simp only [Act.put, List.setIfInBounds_toArray, List.set_cons_zero, List.set_cons_succ] at hK ⊢
              unfold opStep
              rw [if_pos (by rfl)]
              have dd := Lib.hid (HY.out.1 _ hbw)
              have d0 := dd.out.1
              have d1 := dd.out.2
              go_simp
              exact hK.out _ _ (Below.refl _ _) rfl _ rfl
            case a8 =>
              intro wq hbw st  K hK
              simp only [Act.put, List.setIfInBounds_toArray, List.set_cons_zero, List.set_cons_succ] at hK ⊢
              unfold opStep
              rw [if_pos (by rfl)]
              go_simp
              have hpc := dep_any _ _ x y wq ⟨_, rfl, HX.out.2.keep hbw⟩ ⟨_, rfl, HY.out.2.keep hbw⟩
              rw [HD.out] at hpc
              refine hpc.mono ?_
              rintro e wz ⟨rfl, hbz⟩
              go_simp
              exact hK.out _ _ hbz rfl _ rfl
            case a9 =>
              intro wq hbw st  K hK
              simp only [Act.put, List.setIfInBounds_toArray, List.set_cons_zero, List.set_cons_succ] at hK ⊢
              unfold opStep
              rw [if_pos (by rfl)]
              go_simp
              exact hK.out _ _ (Below.refl _ _) rfl _ rfl
            case a10 =>
              intro wq hbw st  K hK
              simp only [Act.put, List.setIfInBounds_toArray, List.set_cons_zero, List.set_cons_succ] at hK ⊢
              unfold opStep
              rw [if_pos (by rfl)]
              go_simp
              exact hK.out _ _ (Below.refl _ _) rfl _ rfl
            case a11 =>
              intro wq hbw st  K hK
              simp only [Act.put, List.setIfInBounds_toArray, List.set_cons_zero, List.set_cons_succ] at hK ⊢
              unfold opStep
              rw [if_pos (by rfl)]
              go_simp
              exact hK.out _ _ (Below.refl _ _) rfl _ rfl
            case a12 =>
              intro wq hbw st  K hK
              simp only [Act.put, List.setIfInBounds_toArray, List.set_cons_zero, List.set_cons_succ] at hK ⊢
              unfold opStep
              rw [if_pos (by rfl)]
              have dd := Lib.hid (HX.out.1 _ hbw)
              have d0 := dd.out.1
              have d1 := dd.out.2
              go_simp
              exact hK.out _ _ (Below.refl _ _) rfl _ rfl
            case a13 =>
              intro wq hbw st  K hK
              simp only [Act.put, List.setIfInBounds_toArray, List.set_cons_zero, List.set_cons_succ] at hK ⊢
              unfold opStep
              rw [if_pos (by rfl)]
              go_simp
              exact hK.out _ _ (Below.refl _ _) rfl _ rfl
            case a14 =>
              intro wq hbw st  K hK
              simp only [Act.put, List.setIfInBounds_toArray, List.set_cons_zero, List.set_cons_succ] at hK ⊢
              unfold opStep
              rw [if_pos (by rfl)]
              go_simp
              exact hK.out _ _ (Below.refl _ _) rfl _ rfl
            case a15 =>
              intro wq hbw st  K hK
              simp only [Act.put, List.setIfInBounds_toArray, List.set_cons_zero, List.set_cons_succ] at hK ⊢
              unfold opStep
              rw [if_pos (by rfl)]
              go_simp
              exact hK.out _ _ (Below.refl _ _) rfl _ rfl
            case a16 =>
              intro wq hbw st  K hK
              simp only [Act.put, List.setIfInBounds_toArray, List.set_cons_zero, List.set_cons_succ] at hK ⊢
              unfold opStep
              rw [if_pos (by rfl)]
              have dd := Lib.hid (HY.out.1 _ hbw)
              have d0 := dd.out.1
              have d1 := dd.out.2
              go_simp
              exact hK.out _ _ (Below.refl _ _) rfl _ rfl
            case a17 =>
              intro wq hbw st  K hK
              simp only [Act.put, List.setIfInBounds_toArray, List.set_cons_zero, List.set_cons_succ] at hK ⊢
              unfold opStep
              rw [if_pos (by rfl)]
              go_simp
              have hpc := rdep_any _ _ x y wq ⟨_, rfl, HX.out.2.keep hbw⟩ ⟨_, rfl, HY.out.2.keep hbw⟩
              rw [HD.out] at hpc
              refine hpc.mono ?_
              rintro e wz ⟨rfl, hbz⟩
              go_simp
              exact hK.out _ _ hbz rfl _ rfl
            case a18 =>
              intro wq hbw st  K hK
              simp only [Act.put, List.setIfInBounds_toArray, List.set_cons_zero, List.set_cons_succ] at hK ⊢
              unfold opStep
              rw [if_pos (by rfl)]
              go_simp
              try rw [show (d != d) = false by simp]
              exact hK.out _ _ (Below.refl _ _) rfl _ rfl
            case afin =>
              intro wq hbw
              try simp only [FinAll]
              simp only [Act.put, List.setIfInBounds_toArray, List.set_cons_zero, List.set_cons_succ]
              replace K4 := Lib.hid (K4.out.trans (hbw.mono K4.out.size))
              clear hbw KW4 HX HY
              go_wp2
              go_roundg (t.length - (k + 1))
              case measure => have := HM2.out; have := HKT.out; omega
              case rel => exact ⟨k + 1, by have := HKT.out; omega, by go_num, K4.out⟩
          · have hki : ¬ (k : Int) < t.length := by omega
            go_wp2_with fail
            clear hki hkt hk
            replace K3 := Lib.hid (K3.out.trans (K4.out.mono K3.out.size))
            clear K4 HM2 KR
            by_cases hkl : p + 1 < t.length
            · obtain ⟨k', hk'⟩ : ∃ k', k' = p + 1 := ⟨_, rfl⟩
              have ek : (p : Int) + 1 = (k' : Int) := by omega
              have ew : IntKind.i64.wrap (k' : Int) = (k' : Int) := IntWalk.i64_in _ (by omega)
              have HK := Lib.hid hk'
              have hkt : k' < t.length := by omega
              have hlt := HLT.out
              have hki : (k' : Int) < t.length := by omega
              have hk0 : (0 : Int) ≤ (k' : Int) := by omega
              have emi : mI t p = p := by unfold mI; rw [if_pos (by omega)]
              have emk : mI t (p + 1) = p + 1 := by unfold mI; split <;> omega
              rw [emi] at hkl3 ⊢
              have HAT : Hid (depI t p k' = false → (indE t)[(indK t p).length]? = some p ∧ (indK t p).length < (indE t).length) := Lib.hid (by subst hk'; exact ind_at hkl)
              have HIK : Hid ((depI t p k' = false → indK t (mI t (p + 1)) = indK t p ++ [p]) ∧ (depI t p k' = true → indK t (mI t (p + 1)) = indK t p)) := Lib.hid (by rw [emk]; subst hk'; exact ⟨indK_yes, indK_no⟩)
              have KR := Lib.hid (HR.out.on K3.out)
              clear hk' emk emi
              obtain ⟨b, off, cap1, s1, c1, hv, hcell, r1⟩ := KR.out.at2 hlt
              injection hv with e1 e2 e3
              subst e1
              obtain ⟨b', off', cap2, s2, c2, hv, hcell', r2⟩ := KR.out.at2 hkt
              injection hv with e1 e2' e3'
              injection e1 with e1
              injection e1 with e1 e4
              subst e1 e4
              have hdi : depI t p k' = depE t[p] t[k'] := depI_eq hlt hkt
              have HX := Lib.hid (And.intro hcell r1)
              have HY := Lib.hid (And.intro hcell' r2)
              clear e2 e3 e2' e3' hcell hcell' r1 r2
              generalize t[p] = x at *
              generalize t[k'] = y at *
              clear hlt hkt hkl
              by_cases hd : depE x y = true
              · have HD := Lib.hid hd
                have HDI := Lib.hid (hdi.trans hd)
                clear hd hdi
                go_wp2_with fail
                refine region_left [.is (.int .i64 (p : Int)), .is (.int .i64 (k' : Int)), .is (.slice (some ⟨b, off, none⟩) t.length cap), .is (.int .i64 (t.length : Int)), .is (.bool true), .is (.bool true), .is (.slice (some ⟨b, off, none⟩) t.length cap), .is (.int .i64 (p : Int)), .is (.pointer (some ⟨b, off + p * 2, none⟩)), .is (.agg #[.int .i64 x.1, .slice s1 x.2.length c1]), .is (.slice (some ⟨b, off, none⟩) t.length cap), .is (.int .i64 (p : Int)), .is (.int .i64 (k' : Int)), .is (.pointer (some ⟨b, off + k' * 2, none⟩)), .is (.agg #[.int .i64 y.1, .slice s2 y.2.length c2]), .is (.bool true), .is (.bool false), .is (.bool false)] (by kernel_rfl) rfl (by kernel_rfl) (by kernel_rfl) (.cons ?b0 (.cons ?b1 (.cons ?b2 (.cons ?b3 (.cons ?b4 (.cons ?b5 (.cons ?b6 (.cons ?b7 (.cons ?b8 (.cons ?b9 (.cons ?b10 (.cons ?b11 (.cons ?b12 (.cons ?b13 (.cons ?b14 (.cons ?b15 (.cons ?b16 (.cons ?b17 .nil)))))))))))))))))) ?bfin
                case b0 =>
                  intro wq hbw st  K hK
                  simp only [Act.put, List.setIfInBounds_toArray, List.set_cons_zero, List.set_cons_succ] at hK ⊢
                  unfold opStep
                  rw [if_pos (by rfl)]
                  go_simp
                  exact hK.out _ _ (Below.refl _ _) rfl _ rfl
                case b1 =>
                  intro wq hbw st  K hK
                  simp only [Act.put, List.setIfInBounds_toArray, List.set_cons_zero, List.set_cons_succ] at hK ⊢
                  unfold opStep
                  rw [if_pos (by rfl)]
                  go_simp
                  exact hK.out _ _ (Below.refl _ _) rfl _ rfl
                case b2 =>
                  intro wq hbw st  K hK
                  simp only [Act.put, List.setIfInBounds_toArray, List.set_cons_zero, List.set_cons_succ] at hK ⊢
                  unfold opStep
                  rw [if_pos (by rfl)]
                  go_simp
                  exact hK.out _ _ (Below.refl _ _) rfl _ rfl
                case b3 =>
                  intro wq hbw st  K hK
                  simp only [Act.put, List.setIfInBounds_toArray, List.set_cons_zero, List.set_cons_succ] at hK ⊢
                  unfold opStep
                  rw [if_pos (by rfl)]
                  go_simp
                  exact hK.out _ _ (Below.refl _ _) rfl _ rfl
                case b4 =>
                  intro wq hbw st  K hK
                  simp only [Act.put, List.setIfInBounds_toArray, List.set_cons_zero, List.set_cons_succ] at hK ⊢
                  unfold opStep
                  rw [if_pos (by rfl)]
                  go_simp
                  exact hK.out _ _ (Below.refl _ _) rfl _ rfl
                case b5 =>
                  intro wq hbw st  K hK
                  simp only [Act.put, List.setIfInBounds_toArray, List.set_cons_zero, List.set_cons_succ] at hK ⊢
                  unfold opStep
                  rw [if_pos (by rfl)]
                  go_simp
                  exact hK.out _ _ (Below.refl _ _) rfl _ rfl
                case b6 =>
                  intro wq hbw st  K hK
                  simp only [Act.put, List.setIfInBounds_toArray, List.set_cons_zero, List.set_cons_succ] at hK ⊢
                  unfold opStep
                  rw [if_pos (by rfl)]
                  go_simp
                  exact hK.out _ _ (Below.refl _ _) rfl _ rfl
                case b7 =>
                  intro wq hbw st  K hK
                  simp only [Act.put, List.setIfInBounds_toArray, List.set_cons_zero, List.set_cons_succ] at hK ⊢
                  unfold opStep
                  rw [if_pos (by rfl)]
                  go_simp
                  exact hK.out _ _ (Below.refl _ _) rfl _ rfl
                case b8 =>
                  intro wq hbw st  K hK
                  simp only [Act.put, List.setIfInBounds_toArray, List.set_cons_zero, List.set_cons_succ] at hK ⊢
                  unfold opStep
                  rw [if_pos (by rfl)]
                  go_simp
                  exact hK.out _ _ (Below.refl _ _) rfl _ rfl
                case b9 =>
                  intro wq hbw st  K hK
                  simp only [Act.put, List.setIfInBounds_toArray, List.set_cons_zero, List.set_cons_succ] at hK ⊢
                  unfold opStep
                  rw [if_pos (by rfl)]
                  have dd := Lib.hid (HX.out.1 _ hbw)
                  have d0 := dd.out.1
                  have d1 := dd.out.2
                  go_simp
                  exact hK.out _ _ (Below.refl _ _) rfl _ rfl
                case b10 =>
                  intro wq hbw st  K hK
                  simp only [Act.put, List.setIfInBounds_toArray, List.set_cons_zero, List.set_cons_succ] at hK ⊢
                  unfold opStep
                  rw [if_pos (by rfl)]
                  go_simp
                  exact hK.out _ _ (Below.refl _ _) rfl _ rfl
                case b11 =>
                  intro wq hbw st  K hK
                  simp only [Act.put, List.setIfInBounds_toArray, List.set_cons_zero, List.set_cons_succ] at hK ⊢
                  unfold opStep
                  rw [if_pos (by rfl)]
                  go_simp
                  exact hK.out _ _ (Below.refl _ _) rfl _ rfl
                case b12 =>
                  intro wq hbw st  K hK
                  simp only [Act.put, List.setIfInBounds_toArray, List.set_cons_zero, List.set_cons_succ] at hK ⊢
                  unfold opStep
                  rw [if_pos (by rfl)]
                  go_simp
                  exact hK.out _ _ (Below.refl _ _) rfl _ rfl
                case b13 =>
                  intro wq hbw st  K hK
                  simp only [Act.put, List.setIfInBounds_toArray, List.set_cons_zero, List.set_cons_succ] at hK ⊢
                  unfold opStep
                  rw [if_pos (by rfl)]
                  go_simp
                  exact hK.out _ _ (Below.refl _ _) rfl _ rfl
                case b14 =>
                  intro wq hbw st  K hK
                  simp only [Act.put, List.setIfInBounds_toArray, List.set_cons_zero, List.set_cons_succ] at hK ⊢
                  unfold opStep
                  rw [if_pos (by rfl)]
                  have dd := Lib.hid (HY.out.1 _ hbw)
                  have d0 := dd.out.1
                  have d1 := dd.out.2
                  go_simp
                  exact hK.out _ _ (Below.refl _ _) rfl _ rfl
                case b15 =>
                  intro wq hbw st  K hK
                  simp only [Act.put, List.setIfInBounds_toArray, List.set_cons_zero, List.set_cons_succ] at hK ⊢
                  unfold opStep
                  rw [if_pos (by rfl)]
                  go_simp
                  have hpc := rdep_any _ _ x y wq ⟨_, rfl, HX.out.2.keep hbw⟩ ⟨_, rfl, HY.out.2.keep hbw⟩
                  rw [HD.out] at hpc
                  refine hpc.mono ?_
                  rintro e wz ⟨rfl, hbz⟩
                  go_simp
                  exact hK.out _ _ hbz rfl _ rfl
                case b16 =>
                  intro wq hbw st  K hK
                  simp only [Act.put, List.setIfInBounds_toArray, List.set_cons_zero, List.set_cons_succ] at hK ⊢
                  unfold opStep
                  rw [if_pos (by rfl)]
                  go_simp
                  exact hK.out _ _ (Below.refl _ _) rfl _ rfl
                case b17 =>
                  intro wq hbw st  K hK
                  simp only [Act.put, List.setIfInBounds_toArray, List.set_cons_zero, List.set_cons_succ] at hK ⊢
                  unfold opStep
                  rw [if_pos (by rfl)]
                  go_simp
                  exact hK.out _ _ (Below.refl _ _) rfl _ rfl
                case bfin =>
                  intro wq hbw
                  try simp only [FinAll]
                  simp only [Act.put, List.setIfInBounds_toArray, List.set_cons_zero, List.set_cons_succ]
                  replace K3 := Lib.hid (K3.out.trans (hbw.mono K3.out.size))
                  clear hbw KR HX HY
                  go_wp2
                  go_roundg (t.length - (p + 1))
                  case measure => have := HM.out; have := HLT.out; omega
                  case rel => exact ⟨p + 1, by have := HLT.out; omega, by go_num, by rw [HIK.out.2 HDI.out], K3.out⟩
              · rw [Bool.not_eq_true] at hd
                have HD := Lib.hid hd
                have HDI := Lib.hid (hdi.trans hd)
                clear hd hdi
                go_wp2_with fail
                refine region_left [.is (.int .i64 (p : Int)), .is (.int .i64 (k' : Int)), .is (.slice (some ⟨b, off, none⟩) t.length cap), .is (.int .i64 (t.length : Int)), .is (.bool true), .is (.bool true), .is (.slice (some ⟨b, off, none⟩) t.length cap), .is (.int .i64 (p : Int)), .is (.pointer (some ⟨b, off + p * 2, none⟩)), .is (.agg #[.int .i64 x.1, .slice s1 x.2.length c1]), .is (.slice (some ⟨b, off, none⟩) t.length cap), .is (.int .i64 (p : Int)), .is (.int .i64 (k' : Int)), .is (.pointer (some ⟨b, off + k' * 2, none⟩)), .is (.agg #[.int .i64 y.1, .slice s2 y.2.length c2]), .is (.bool false), .is (.bool true), .is (.bool true)] (by kernel_rfl) rfl (by kernel_rfl) (by kernel_rfl) (.cons ?c0 (.cons ?c1 (.cons ?c2 (.cons ?c3 (.cons ?c4 (.cons ?c5 (.cons ?c6 (.cons ?c7 (.cons ?c8 (.cons ?c9 (.cons ?c10 (.cons ?c11 (.cons ?c12 (.cons ?c13 (.cons ?c14 (.cons ?c15 (.cons ?c16 (.cons ?c17 .nil)))))))))))))))))) ?cfin
                case c0 =>
                  intro wq hbw st  K hK
                  simp only [Act.put, List.setIfInBounds_toArray, List.set_cons_zero, List.set_cons_succ] at hK ⊢
                  unfold opStep
                  rw [if_pos (by rfl)]
                  go_simp
                  exact hK.out _ _ (Below.refl _ _) rfl _ rfl
                case c1 =>
                  intro wq hbw st  K hK
                  simp only [Act.put, List.setIfInBounds_toArray, List.set_cons_zero, List.set_cons_succ] at hK ⊢
                  unfold opStep
                  rw [if_pos (by rfl)]
                  go_simp
                  exact hK.out _ _ (Below.refl _ _) rfl _ rfl
                case c2 =>
                  intro wq hbw st  K hK
                  simp only [Act.put, List.setIfInBounds_toArray, List.set_cons_zero, List.set_cons_succ] at hK ⊢
                  unfold opStep
                  rw [if_pos (by rfl)]
                  go_simp
                  exact hK.out _ _ (Below.refl _ _) rfl _ rfl
                case c3 =>
                  intro wq hbw st  K hK
                  simp only [Act.put, List.setIfInBounds_toArray, List.set_cons_zero, List.set_cons_succ] at hK ⊢
                  unfold opStep
                  rw [if_pos (by rfl)]
                  go_simp
                  exact hK.out _ _ (Below.refl _ _) rfl _ rfl
                case c4 =>
                  intro wq hbw st  K hK
                  simp only [Act.put, List.setIfInBounds_toArray, List.set_cons_zero, List.set_cons_succ] at hK ⊢
                  unfold opStep
                  rw [if_pos (by rfl)]
                  go_simp
                  exact hK.out _ _ (Below.refl _ _) rfl _ rfl
                case c5 =>
                  intro wq hbw st  K hK
                  simp only [Act.put, List.setIfInBounds_toArray, List.set_cons_zero, List.set_cons_succ] at hK ⊢
                  unfold opStep
                  rw [if_pos (by rfl)]
                  go_simp
                  exact hK.out _ _ (Below.refl _ _) rfl _ rfl
                case c6 =>
                  intro wq hbw st  K hK
                  simp only [Act.put, List.setIfInBounds_toArray, List.set_cons_zero, List.set_cons_succ] at hK ⊢
                  unfold opStep
                  rw [if_pos (by rfl)]
                  go_simp
                  exact hK.out _ _ (Below.refl _ _) rfl _ rfl
                case c7 =>
                  intro wq hbw st  K hK
                  simp only [Act.put, List.setIfInBounds_toArray, List.set_cons_zero, List.set_cons_succ] at hK ⊢
                  unfold opStep
                  rw [if_pos (by rfl)]
                  go_simp
                  exact hK.out _ _ (Below.refl _ _) rfl _ rfl
                case c8 =>
                  intro wq hbw st  K hK
                  simp only [Act.put, List.setIfInBounds_toArray, List.set_cons_zero, List.set_cons_succ] at hK ⊢
                  unfold opStep
                  rw [if_pos (by rfl)]
                  go_simp
                  exact hK.out _ _ (Below.refl _ _) rfl _ rfl
                case c9 =>
                  intro wq hbw st  K hK
                  simp only [Act.put, List.setIfInBounds_toArray, List.set_cons_zero, List.set_cons_succ] at hK ⊢
                  unfold opStep
                  rw [if_pos (by rfl)]
                  have dd := Lib.hid (HX.out.1 _ hbw)
                  have d0 := dd.out.1
                  have d1 := dd.out.2
                  go_simp
                  exact hK.out _ _ (Below.refl _ _) rfl _ rfl
                case c10 =>
                  intro wq hbw st  K hK
                  simp only [Act.put, List.setIfInBounds_toArray, List.set_cons_zero, List.set_cons_succ] at hK ⊢
                  unfold opStep
                  rw [if_pos (by rfl)]
                  go_simp
                  exact hK.out _ _ (Below.refl _ _) rfl _ rfl
                case c11 =>
                  intro wq hbw st  K hK
                  simp only [Act.put, List.setIfInBounds_toArray, List.set_cons_zero, List.set_cons_succ] at hK ⊢
                  unfold opStep
                  rw [if_pos (by rfl)]
                  go_simp
                  exact hK.out _ _ (Below.refl _ _) rfl _ rfl
                case c12 =>
                  intro wq hbw st  K hK
                  simp only [Act.put, List.setIfInBounds_toArray, List.set_cons_zero, List.set_cons_succ] at hK ⊢
                  unfold opStep
                  rw [if_pos (by rfl)]
                  go_simp
                  exact hK.out _ _ (Below.refl _ _) rfl _ rfl
                case c13 =>
                  intro wq hbw st  K hK
                  simp only [Act.put, List.setIfInBounds_toArray, List.set_cons_zero, List.set_cons_succ] at hK ⊢
                  unfold opStep
                  rw [if_pos (by rfl)]
                  go_simp
                  exact hK.out _ _ (Below.refl _ _) rfl _ rfl
                case c14 =>
                  intro wq hbw st  K hK
                  simp only [Act.put, List.setIfInBounds_toArray, List.set_cons_zero, List.set_cons_succ] at hK ⊢
                  unfold opStep
                  rw [if_pos (by rfl)]
                  have dd := Lib.hid (HY.out.1 _ hbw)
                  have d0 := dd.out.1
                  have d1 := dd.out.2
                  go_simp
                  exact hK.out _ _ (Below.refl _ _) rfl _ rfl
                case c15 =>
                  intro wq hbw st  K hK
                  simp only [Act.put, List.setIfInBounds_toArray, List.set_cons_zero, List.set_cons_succ] at hK ⊢
                  unfold opStep
                  rw [if_pos (by rfl)]
                  go_simp
                  have hpc := rdep_any _ _ x y wq ⟨_, rfl, HX.out.2.keep hbw⟩ ⟨_, rfl, HY.out.2.keep hbw⟩
                  rw [HD.out] at hpc
                  refine hpc.mono ?_
                  rintro e wz ⟨rfl, hbz⟩
                  go_simp
                  exact hK.out _ _ hbz rfl _ rfl
                case c16 =>
                  intro wq hbw st  K hK
                  simp only [Act.put, List.setIfInBounds_toArray, List.set_cons_zero, List.set_cons_succ] at hK ⊢
                  unfold opStep
                  rw [if_pos (by rfl)]
                  go_simp
                  exact hK.out _ _ (Below.refl _ _) rfl _ rfl
                case c17 =>
                  intro wq hbw st  K hK
                  simp only [Act.put, List.setIfInBounds_toArray, List.set_cons_zero, List.set_cons_succ] at hK ⊢
                  unfold opStep
                  rw [if_pos (by rfl)]
                  go_simp
                  exact hK.out _ _ (Below.refl _ _) rfl _ rfl
                case cfin =>
                  intro wq hbw
                  try simp only [FinAll]
                  simp only [Act.put, List.setIfInBounds_toArray, List.set_cons_zero, List.set_cons_succ]
                  replace K3 := Lib.hid (K3.out.trans (hbw.mono K3.out.size))
                  clear hbw KR HX HY
                  obtain ⟨hat, hlt2⟩ := HAT.out HDI.out
                  have hne : ¬ ((indE t).length : Int) ≤ ((indK t p).length : Int) := by omega
                  have hlt3 : ((indK t p).length : Int) < ((indE t).length : Int) := by omega
                  obtain ⟨ig, rfl, hig, hcell⟩ := row_at HA.out (by omega)
                  have c0 : wq.cell? ⟨ig, (indK t p).length, none⟩ = some (.int .i64 (p : Int)) := hcell wq K3.out _ _ (by rw [List.getElem?_map, hat]; rfl)
                  have hEQ : indK t (mI t (p + 1)) = indK t p ++ [p] := HIK.out.1 HDI.out
                  have HEQ := Lib.hid (show ((indK t (mI t (p + 1))).length : Nat) = (indK t p).length + 1 by rw [hEQ]; simp)
                  clear hEQ hat hcell
                  generalize (indK t p).length = q at *
                  have ewq : IntKind.i64.wrap ((q : Int) + 1) = ((q + 1 : Nat) : Int) := by rw [IntWalk.i64_in _ (by omega)]; rfl
                  have hq0 : (0 : Int) ≤ (q : Int) := by omega
                  go_wp2
                  go_roundg (t.length - (p + 1))
                  case measure => have := HM.out; have := HLT.out; omega
                  case rel => exact ⟨p + 1, by have := HLT.out; omega, by go_num, by rw [HEQ.out]; go_num, K3.out⟩
            · obtain ⟨k', hk'⟩ : ∃ k', k' = p + 1 := ⟨_, rfl⟩
              have ek : (p : Int) + 1 = (k' : Int) := by omega
              have ew : IntKind.i64.wrap (k' : Int) = (k' : Int) := IntWalk.i64_in _ (by omega)
              have hkn : ¬ (k' : Int) < (t.length : Int) := by omega
              have hkd : decide (k' < t.length) = false := decide_eq_false (by omega)
              have HK := Lib.hid hk'
              clear hk'
              have HEQ : Hid (mI t (p + 1) = mI t p) := Lib.hid (by unfold mI; have := HLT.out; split <;> split <;> omega)
              clear hkl
              go_wp2_with fail
              refine region_left [.is (.int .i64 (p : Int)), .is (.int .i64 (k' : Int)), .is (.slice ao t.length cap), .is (.int .i64 (t.length : Int)), .is (.bool false), .is (.bool false), .is undef, .is undef, .is undef, .is undef, .is undef, .is undef, .is undef, .is undef, .is undef, .is undef, .is undef, .is (.bool false)] (by kernel_rfl) rfl (by kernel_rfl) (by kernel_rfl) (.cons ?d0 (.cons ?d1 (.cons ?d2 (.cons ?d3 (.cons ?d4 (.cons ?d5 (.cons ?d6 (.cons ?d7 (.cons ?d8 (.cons ?d9 (.cons ?d10 (.cons ?d11 (.cons ?d12 (.cons ?d13 (.cons ?d14 (.cons ?d15 (.cons ?d16 (.cons ?d17 .nil)))))))))))))))))) ?dfin
              case d0 =>
                intro wq hbw st  K hK
                simp only [Act.put, List.setIfInBounds_toArray, List.set_cons_zero, List.set_cons_succ] at hK ⊢
                unfold opStep
                rw [if_pos (by rfl)]
                go_simp
                exact hK.out _ _ (Below.refl _ _) rfl _ rfl
              case d1 =>
                intro wq hbw st  K hK
                simp only [Act.put, List.setIfInBounds_toArray, List.set_cons_zero, List.set_cons_succ] at hK ⊢
                unfold opStep
                rw [if_pos (by rfl)]
                go_simp
                exact hK.out _ _ (Below.refl _ _) rfl _ rfl
              case d2 =>
                intro wq hbw st  K hK
                simp only [Act.put, List.setIfInBounds_toArray, List.set_cons_zero, List.set_cons_succ] at hK ⊢
                unfold opStep
                rw [if_pos (by rfl)]
                go_simp
                exact hK.out _ _ (Below.refl _ _) rfl _ rfl
              case d3 =>
                intro wq hbw st  K hK
                simp only [Act.put, List.setIfInBounds_toArray, List.set_cons_zero, List.set_cons_succ] at hK ⊢
                unfold opStep
                rw [if_pos (by rfl)]
                go_simp
                exact hK.out _ _ (Below.refl _ _) rfl _ rfl
              case d4 =>
                intro wq hbw st  K hK
                simp only [Act.put, List.setIfInBounds_toArray, List.set_cons_zero, List.set_cons_succ] at hK ⊢
                unfold opStep
                rw [if_pos (by rfl)]
                go_simp
                exact hK.out _ _ (Below.refl _ _) rfl _ rfl
              case d5 =>
                intro wq hbw st  K hK
                simp only [Act.put, List.setIfInBounds_toArray, List.set_cons_zero, List.set_cons_succ] at hK ⊢
                unfold opStep
                rw [if_pos (by rfl)]
                go_simp
                exact hK.out _ _ (Below.refl _ _) rfl _ rfl
              case d6 =>
                intro wq hbw st  K hK
                simp only [Act.put, List.setIfInBounds_toArray, List.set_cons_zero, List.set_cons_succ] at hK ⊢
                unfold opStep
                rw [if_neg (by change ¬ (false = true); exact Bool.false_ne_true)]
                exact hK.out _ _ (Below.refl _ _) rfl _ rfl
              case d7 =>
                intro wq hbw st  K hK
                simp only [Act.put, List.setIfInBounds_toArray, List.set_cons_zero, List.set_cons_succ] at hK ⊢
                unfold opStep
                rw [if_neg (by change ¬ (false = true); exact Bool.false_ne_true)]
                exact hK.out _ _ (Below.refl _ _) rfl _ rfl
              case d8 =>
                intro wq hbw st  K hK
                simp only [Act.put, List.setIfInBounds_toArray, List.set_cons_zero, List.set_cons_succ] at hK ⊢
                unfold opStep
                rw [if_neg (by change ¬ (false = true); exact Bool.false_ne_true)]
                exact hK.out _ _ (Below.refl _ _) rfl _ rfl
              case d9 =>
                intro wq hbw st  K hK
                simp only [Act.put, List.setIfInBounds_toArray, List.set_cons_zero, List.set_cons_succ] at hK ⊢
                unfold opStep
                rw [if_neg (by change ¬ (false = true); exact Bool.false_ne_true)]
                exact hK.out _ _ (Below.refl _ _) rfl _ rfl
              case d10 =>
                intro wq hbw st  K hK
                simp only [Act.put, List.setIfInBounds_toArray, List.set_cons_zero, List.set_cons_succ] at hK ⊢
                unfold opStep
                rw [if_neg (by change ¬ (false = true); exact Bool.false_ne_true)]
                exact hK.out _ _ (Below.refl _ _) rfl _ rfl
              case d11 =>
                intro wq hbw st  K hK
                simp only [Act.put, List.setIfInBounds_toArray, List.set_cons_zero, List.set_cons_succ] at hK ⊢
                unfold opStep
                rw [if_neg (by change ¬ (false = true); exact Bool.false_ne_true)]
                exact hK.out _ _ (Below.refl _ _) rfl _ rfl
              case d12 =>
                intro wq hbw st  K hK
                simp only [Act.put, List.setIfInBounds_toArray, List.set_cons_zero, List.set_cons_succ] at hK ⊢
                unfold opStep
                rw [if_neg (by change ¬ (false = true); exact Bool.false_ne_true)]
                exact hK.out _ _ (Below.refl _ _) rfl _ rfl
              case d13 =>
                intro wq hbw st  K hK
                simp only [Act.put, List.setIfInBounds_toArray, List.set_cons_zero, List.set_cons_succ] at hK ⊢
                unfold opStep
                rw [if_neg (by change ¬ (false = true); exact Bool.false_ne_true)]
                exact hK.out _ _ (Below.refl _ _) rfl _ rfl
              case d14 =>
                intro wq hbw st  K hK
                simp only [Act.put, List.setIfInBounds_toArray, List.set_cons_zero, List.set_cons_succ] at hK ⊢
                unfold opStep
                rw [if_neg (by change ¬ (false = true); exact Bool.false_ne_true)]
                exact hK.out _ _ (Below.refl _ _) rfl _ rfl
              case d15 =>
                intro wq hbw st  K hK
                simp only [Act.put, List.setIfInBounds_toArray, List.set_cons_zero, List.set_cons_succ] at hK ⊢
                unfold opStep
                rw [if_neg (by change ¬ (false = true); exact Bool.false_ne_true)]
                exact hK.out _ _ (Below.refl _ _) rfl _ rfl
              case d16 =>
                intro wq hbw st  K hK
                simp only [Act.put, List.setIfInBounds_toArray, List.set_cons_zero, List.set_cons_succ] at hK ⊢
                unfold opStep
                rw [if_neg (by change ¬ (false = true); exact Bool.false_ne_true)]
                exact hK.out _ _ (Below.refl _ _) rfl _ rfl
              case d17 =>
                intro wq hbw st  K hK
                simp only [Act.put, List.setIfInBounds_toArray, List.set_cons_zero, List.set_cons_succ] at hK ⊢
                unfold opStep
                rw [if_pos (by rfl)]
                go_simp
                exact hK.out _ _ (Below.refl _ _) rfl _ rfl
              case dfin =>
                intro wq hbw
                try simp only [FinAll]
                simp only [Act.put, List.setIfInBounds_toArray, List.set_cons_zero, List.set_cons_succ]
                replace K3 := Lib.hid (K3.out.trans (hbw.mono K3.out.size))
                clear hbw
                go_wp2
                go_roundg (t.length - (p + 1))
                case measure => have := HM.out; have := HLT.out; omega
                case rel => exact ⟨p + 1, by have := HLT.out; omega, by go_num, by rw [HEQ.out], K3.out⟩
      · have hpi : ¬ (p : Int) < t.length := by omega
        have hEQ : indK t (mI t p) = indE t := by unfold mI; rw [if_neg (by omega)]; rfl
        rw [hEQ]
        have hb := K3.out
        replace HR := Lib.hid (HR.out.on hb)
        replace KW := Lib.hid (KW.out.trans (hb.mono KW.out.size))
        clear hb
        clear hEQ K3 KR hkl3 hmi3
        go_wp2_with fail
        refine (normal_any _ t _ HR.out HST.out).mono ?_
        rintro e w5 ⟨v5, rfl, h5⟩
        have hb := h5.1.2.2
        have H5 := Lib.hid (NormMade.reads h5)
        obtain ⟨o5, c5, rfl⟩ := h5.slc
        clear h5
        replace HR := Lib.hid (HR.out.on hb)
        replace KW := Lib.hid (KW.out.trans (hb.mono KW.out.size))
        clear hb
        go_wp2_with fail
        refine (rnormal_any _ t _ HR.out (by omega)).mono ?_
        rintro e w6 ⟨v6, rfl, h6⟩
        have hb := h6.1.2.2
        have H6 := Lib.hid (h6.reads (EvW.ev hb))
        obtain ⟨o6, c6, rfl⟩ := h6.slc
        clear h6
        replace H5 := Lib.hid (H5.out.on hb)
        replace HR := Lib.hid (HR.out.on hb)
        replace KW := Lib.hid (KW.out.trans (hb.mono KW.out.size))
        clear hb
        go_wp2_with fail
        refine (rstr_any _ _ (normE t) (normE t) _ H5.out H6.out).mono ?_
        rintro e w7 ⟨rfl, hb⟩
        rw [decide_eq_true rfl]
        replace HR := Lib.hid (HR.out.on hb)
        replace KW := Lib.hid (KW.out.trans (hb.mono KW.out.size))
        clear hb
        go_wp2
        go_ret
        exact ⟨rfl, KW.out⟩

set_option maxRecDepth 100000 in
theorem lifted (os : Os) (started : os.Started) (H : Type) (enc : TypeId × Value → H) :
    ReturnsInHanded {} Try.checked os 3 .any (Rows.scheduleNormalSpec.pre6 enc Try.prog Try.f3 Rows.scheduleNormalRow.domain false) (Rows.scheduleNormalSpec.post enc Try.prog Try.f3 false true false false) := by
  refine returnsInHanded_of_change (C := Try.checked) own started (by kernel_rfl) Try.func3
    (ChangeSpec.witness6 (enc := enc) (C := Try.checked) false ⟨#[], #[.slice none 0 0], []⟩ 8 (by kernel_rfl) (by kernel_rfl) (by kernel_rfl) (by kernel_rfl)) ?_
  intro W base args ds gs before hval0 hW hcnd _
  have hval : ∀ (j : Nat) t v, Try.f3.params[j]? = some t → args[j]? = some v → Value.okWide Try.prog W .any base t v := hval0
  have hW' := hW
  obtain ⟨p, q, hA0, hV, rfl, hfz, hnd⟩ := hW
  have hA : DataW.TrodAll enc Try.prog W 0 (fun _ => true) true Try.f3.params.toList args.toList ds p := hA0
  rw [Try.params3] at hA hval
  obtain ⟨v0, vs0, d0, ds0, p0, q0, hargs, rfl, rfl, t0, r0⟩ := trodAll_cons hA
  obtain ⟨rfl, rfl, rfl⟩ := trodAll_nil r0
  obtain rfl : args = #[v0] := by cases args; simp_all
  obtain ⟨rfl, rfl⟩ := trodVars_none hV
  obtain ⟨x0, h0⟩ := open_tr (hval 0 22 v0 rfl rfl) t0
  refine (walk v0 x0 W h0).mono fun e W' ⟨he, hb⟩ => ?_
  subst he
  exact ⟨_, rfl, law_post laidOut rfl (fun _ _ => rfl) (by kernel_rfl) Try.underlying4 (by rw [Try.params3]; exact fun t ht => by simp at ht; rcases ht with  rfl ; all_goals exact ⟨by kernel_rfl, of_decide_eq_true (by kernel_rfl)⟩) hW' hb⟩

theorem over : Rows.scheduleNormalRow.holds Try.pinned (OpenSpec.ofChange Rows.scheduleNormalSpec) :=
  OpenClaim.holds_of_wide 3 Try.f3 rfl rfl rfl rfl rfl rfl rfl ⟨rfl, rfl, rfl, rfl, rfl⟩ rfl rfl rfl rfl rfl (by kernel_rfl) Try.func3 (by kernel_rfl)
    (of_decide_eq_true (by kernel_rfl)) (by unfold Func.isWrapper; first | (rw [if_pos (by decide +kernel)]; kernel_rfl) | (rw [if_neg (by decide +kernel)]; exact ⟨rfl, rfl⟩))
    (fun os started H enc _ => lifted os started H enc)

theorem proved : Rows.ScheduleNormalSaid := over
end Go.Proofs.Ytfdicndmebhmdaa.scheduleNormal
