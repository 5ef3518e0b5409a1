/-
  Chapter 55: Verify of the reference.
-/
import Derived.Test.YtjijlhjggpibjaaGr
import Derived.Test.YtjijlhjggpibjaaGo
import Derived.Test.YtjijlhjggpibjaaJc
import Derived.Test.YtjijlhjggpibjaaEq
namespace Go.Proofs.Ytjijlhjggpibjaa
open Go.RowKit

set_option maxRecDepth 100000 in
set_option maxHeartbeats 32000000 in
theorem rver_any (v u : Value) (h : List Opn) (is : List Int) (W : World) (hr : ReadsO W v h) (hq : Reads vi W u is) (hs : SmallH h) (hi : is.length ≤ 1000) : Calls Try.prog 16 #[v, u] W (BoolMade W (verB h is)) := by
  have HR := Lib.hid hr
  have HQ := Lib.hid hq
  have HS := Lib.hid hs
  have HCH := Lib.hid (rcheck_any v h W hr hs)
  have hn := hs.1
  obtain ⟨ao, cap, rfl, hl, hm, -, -⟩ := hr
  unfold maxLen at hm
  obtain ⟨qa, qk, rfl, hqk, hql⟩ := slcI hq
  clear hs hq
  obtain ⟨res, hres⟩ : ∃ z, z = verB h is := ⟨_, rfl⟩
  have HNO : Hid (¬ VerP h is → res = false) := Lib.hid fun hn => by rw [hres]; exact Bool.eq_false_iff.2 fun q => hn (ver_iff.1 q)
  have HYE : Hid (VerP h is → res = true) := Lib.hid fun hn => by rw [hres]; exact ver_iff.2 hn
  rw [← hres]
  clear hres
  unfold ChkMade at HCH
  go_enter Try.func16, Try.ntmps16
  go_wp2_with fail
  refine HCH.out.mono ?_
  rintro e w1 ⟨rfl, hb1⟩
  have KW1 := Lib.hid hb1
  clear hb1 HCH
  by_cases h0 : (chkL h).2 = 0
  · have HW := Lib.hid (chk_well.1 h0)
    have e0 := bne_f h0
    clear h0
    go_wp2_with fail
    refine (places_any _ _ h is w1 (HR.out.on KW1.out) (HQ.out.keep KW1.out) HS.out hi).mono ?_
    rintro e w2 ⟨hb2, hpl⟩
    have KW2 := Lib.hid (KW1.out.trans (hb2.mono KW1.out.size))
    clear hb2 KW1
    rcases hpl with ⟨hok, va, rfl, hra⟩ | ⟨hok, rfl⟩
    · have HOK := Lib.hid hok
      have HA := Lib.hid hra
      obtain ⟨aa, ak, rfl, hak, hal⟩ := slcI hra
      rw [listF_len] at hal
      rw [listF_len]
      clear hok hra
      go_wp2
      go_loopg [9] h.length (fun m i wr => ∃ k : Nat, m + k = h.length ∧ i = .int .i64 ((k : Nat) : Int) ∧ Below w2.heap.size w2 wr ∧ ∀ i j, i < k → j < h.length → prI h i j = true → 0 ≤ posK is is.length j → posK is is.length i ≤ posK is is.length j)
      case atStart => exact ⟨0, by omega, rfl, Below.refl _ _, fun i j hi => by omega⟩
      case round =>
        obtain ⟨x, hmx, rfl, hbel, hall⟩ := hrel
        have HM := Lib.hid hmx
        have KZ := Lib.hid hbel
        have HALL := Lib.hid hall
        have hx : x ≤ h.length := by omega
        clear hmx hbel hall
        by_cases hxl : x < h.length
        · obtain ⟨b, off, cap1, a4, c4, a5, c5, hv, _, _, hm4, hm5, hl4, hl5, hcell, r1, r2⟩ := HR.out.at2 hxl
          injection hv with e1 e2 e3
          subst e1
          have hxi : (x : Int) < h.length := by omega
          have hx0 : (0 : Int) ≤ (x : Int) := by omega
          have HN := Lib.hid (And.intro hcell (And.intro r1 r2))
          have HNX : Hid (nth h x = h[x]) := Lib.hid (nth_eq hxl)
          have HXN := Lib.hid (And.intro hxl trivial)
          clear e2 e3 hcell r1 r2
          generalize h[x] = o at *
          clear hxl
          obtain ⟨G4, hG4⟩ : ∃ G, G = gk := ⟨_, rfl⟩
          subst hG4
          go_wp2
          obtain ⟨wo, hwo⟩ : ∃ x, x = wr := ⟨_, rfl⟩
          rw [← hwo] at KZ ⊢
          clear hwo
          go_loopg [10] h.length (fun m i wr => ∃ z : Nat, m + z = h.length ∧ i = .int .i64 ((z : Nat) : Int) ∧ Below w2.heap.size w2 wr ∧ ∀ j, j < z → prI h x j = true → 0 ≤ posK is is.length j → posK is is.length x ≤ posK is is.length j)
          case atStart => exact ⟨0, by omega, rfl, KZ.out, fun j hj => by omega⟩
          case round =>
            clear KZ
            obtain ⟨z, hmz, rfl, hbel, hrow⟩ := hrel
            have HM4 := Lib.hid hmz
            have KZ := Lib.hid hbel
            have KW := Lib.hid (KW2.out.trans (hbel.mono KW2.out.size))
            have HROW := Lib.hid hrow
            have hz : z ≤ h.length := by omega
            clear hmz hbel hrow
            by_cases hzl : z < h.length
            · obtain ⟨b', off', cap2', d4, k4, d5, k5, hv, _, _, n4, n5, l4, l5, hcell, s1', s2'⟩ := HR.out.at2 hzl
              injection hv with e5 e6 e7
              injection e5 with e5
              injection e5 with e5 e8
              subst e5 e8
              have hzi : (z : Int) < h.length := by omega
              have hz0 : (0 : Int) ≤ (z : Int) := by omega
              have HN2 := Lib.hid (And.intro hcell (And.intro s1' s2'))
              have HPE : Hid (prI h x z = befO o h[z]) := Lib.hid (by rw [← befO_dec HW.out HXN.out.1, HNX.out, nth_eq hzl])
              obtain ⟨ba, oa, ca, hva, hba, hca⟩ := int_at (k := z) (HA.out.keep KZ.out) (by rw [listF_len]; exact hzl)
              obtain ⟨bb, ob, cb, hvb, hbb, hcb⟩ := int_at (k := x) (HA.out.keep KZ.out) (by rw [listF_len]; exact HXN.out.1)
              rw [listF_len] at hva hvb
              injection hva with f1 f2 f3
              injection hvb with g1 g2 g3
              subst f1
              injection g1 with g1
              injection g1 with g1 g4
              subst g1 g4
              have HCZ : Hid (∀ wq, Below wr.heap.size wr wq → wq.cell? ⟨ba, oa + z, none⟩ = some (.int .i64 (posK is is.length z))) := Lib.hid fun wq hq => by
                have h9 := (hq.cell (p := ⟨ba, oa + z, none⟩) hba).trans hca
                rw [h9]; unfold listF; simp [vi]
              have HCX : Hid (∀ wq, Below wr.heap.size wr wq → wq.cell? ⟨ba, oa + x, none⟩ = some (.int .i64 (posK is is.length x))) := Lib.hid fun wq hq => by
                have h9 := (hq.cell (p := ⟨ba, oa + x, none⟩) hba).trans hcb
                rw [h9]; unfold listF; simp [vi]
              have HOKS : Hid ((prI h x z = true → 0 ≤ posK is is.length z → posK is is.length x ≤ posK is is.length z) → ∀ j, j < z + 1 → prI h x j = true → 0 ≤ posK is is.length j → posK is is.length x ≤ posK is is.length j) := Lib.hid fun hok j hj => by
                by_cases e : j = z
                · subst e; exact hok
                · exact HROW.out j (by omega)
              have HBAD : Hid (prI h x z = true → 0 ≤ posK is is.length z → posK is is.length z < posK is is.length x → res = false) := Lib.hid fun h1 h2 h3 => HNO.out fun hv => ver_prec hv h1 h2 h3
              rw [HPE.out] at HOKS HBAD
              clear e6 e7 hcell s1' s2' f2 f3 g2 g3 hba hbb hca hcb HPE
              generalize h[z] = y at *
              generalize posK is is.length z = pz at *
              generalize posK is is.length x = px at *
              clear hzl
              have mixed : Try.prog.follows .mixedOrders = true := by kernel_rfl
              cases hp : befO o y with
              | true =>
                have P1 := Lib.hid hp
                by_cases hge : 0 ≤ pz
                · have HGE := Lib.hid (decide_eq_true hge)
                  by_cases hlt : pz < px
                  · have HLT := Lib.hid (decide_eq_true hlt)
                    have HE := Lib.hid (HBAD.out hp hge hlt)
                    clear hp hge hlt
                    go_upto_region 13 with fail
                    refine region_left [.is (.slice (some ⟨b, off, none⟩) h.length cap), .is (.int .i64 (x : Int)), .is (.pointer (some ⟨b, off + x * 6, none⟩)), .is (.agg #[.int .i64 (cliO o), .int .i64 (kindO o), .int .i64 (begO o), .int .i64 (endO o), .slice a4 (addO o).length c4, .slice a5 (seeO o).length c5]), .is (.slice (some ⟨b, off, none⟩) h.length cap), .is (.int .i64 (z : Int)), .is (.pointer (some ⟨b, off + z * 6, none⟩)), .is (.agg #[.int .i64 (cliO y), .int .i64 (kindO y), .int .i64 (begO y), .int .i64 (endO y), .slice d4 (addO y).length k4, .slice d5 (seeO y).length k5]), .is (.bool true), .is (.bool true), .is (.slice (some ⟨ba, oa, none⟩) h.length ak), .is (.int .i64 (z : Int)), .is (.pointer (some ⟨ba, oa + z, none⟩)), .is (.int .i64 pz), .is (.bool true), .is (.bool true), .is (.bool true), .is (.slice (some ⟨ba, oa, none⟩) h.length ak), .is (.int .i64 (z : Int)), .is (.pointer (some ⟨ba, oa + z, none⟩)), .is (.int .i64 pz), .is (.slice (some ⟨ba, oa, none⟩) h.length ak), .is (.int .i64 (x : Int)), .is (.pointer (some ⟨ba, oa + x, none⟩)), .is (.int .i64 px), .is (.bool true), .is (.bool true)] (by kernel_rfl) rfl (by kernel_rfl) (by kernel_rfl) (.cons ?r1_0 (.cons ?r1_1 (.cons ?r1_2 (.cons ?r1_3 (.cons ?r1_4 (.cons ?r1_5 (.cons ?r1_6 (.cons ?r1_7 (.cons ?r1_8 (.cons ?r1_9 (.cons ?r1_10 (.cons ?r1_11 (.cons ?r1_12 (.cons ?r1_13 (.cons ?r1_14 (.cons ?r1_15 (.cons ?r1_16 (.cons ?r1_17 (.cons ?r1_18 (.cons ?r1_19 (.cons ?r1_20 (.cons ?r1_21 (.cons ?r1_22 (.cons ?r1_23 (.cons ?r1_24 (.cons ?r1_25 (.cons ?r1_26 .nil))))))))))))))))))))))))))) ?r1_fin
                    case r1_0 =>
                      intro wq hbw st  K hK
                      have KQ := KW.out.trans (hbw.mono KW.out.size)
                      simp only [Act.put, List.setIfInBounds_toArray, List.set_cons_zero, List.set_cons_succ] at hK ⊢
                      unfold opStep
                      rw [if_pos (by rfl)]
                      go_simp
                      exact hK.out _ _ (Below.refl _ _) rfl _ rfl
                    case r1_1 =>
                      intro wq hbw st  K hK
                      have KQ := KW.out.trans (hbw.mono KW.out.size)
                      simp only [Act.put, List.setIfInBounds_toArray, List.set_cons_zero, List.set_cons_succ] at hK ⊢
                      unfold opStep
                      rw [if_pos (by rfl)]
                      go_simp
                      exact hK.out _ _ (Below.refl _ _) rfl _ rfl
                    case r1_2 =>
                      intro wq hbw st  K hK
                      have KQ := KW.out.trans (hbw.mono KW.out.size)
                      simp only [Act.put, List.setIfInBounds_toArray, List.set_cons_zero, List.set_cons_succ] at hK ⊢
                      unfold opStep
                      rw [if_pos (by rfl)]
                      go_simp
                      exact hK.out _ _ (Below.refl _ _) rfl _ rfl
                    case r1_3 =>
                      intro wq hbw st  K hK
                      have KQ := KW.out.trans (hbw.mono KW.out.size)
                      simp only [Act.put, List.setIfInBounds_toArray, List.set_cons_zero, List.set_cons_succ] at hK ⊢
                      unfold opStep
                      rw [if_pos (by rfl)]
                      have dd := Lib.hid (HN.out.1 wq KQ)
                      have d0 := dd.out.1
                      have d1 := dd.out.2.1
                      have d2 := dd.out.2.2.1
                      have d3 := dd.out.2.2.2.1
                      have d4 := dd.out.2.2.2.2.1
                      have d5 := dd.out.2.2.2.2.2
                      go_simp
                      exact hK.out _ _ (Below.refl _ _) rfl _ rfl
                    case r1_4 =>
                      intro wq hbw st  K hK
                      have KQ := KW.out.trans (hbw.mono KW.out.size)
                      simp only [Act.put, List.setIfInBounds_toArray, List.set_cons_zero, List.set_cons_succ] at hK ⊢
                      unfold opStep
                      rw [if_pos (by rfl)]
                      go_simp
                      exact hK.out _ _ (Below.refl _ _) rfl _ rfl
                    case r1_5 =>
                      intro wq hbw st  K hK
                      have KQ := KW.out.trans (hbw.mono KW.out.size)
                      simp only [Act.put, List.setIfInBounds_toArray, List.set_cons_zero, List.set_cons_succ] at hK ⊢
                      unfold opStep
                      rw [if_pos (by rfl)]
                      go_simp
                      exact hK.out _ _ (Below.refl _ _) rfl _ rfl
                    case r1_6 =>
                      intro wq hbw st  K hK
                      have KQ := KW.out.trans (hbw.mono KW.out.size)
                      simp only [Act.put, List.setIfInBounds_toArray, List.set_cons_zero, List.set_cons_succ] at hK ⊢
                      unfold opStep
                      rw [if_pos (by rfl)]
                      go_simp
                      exact hK.out _ _ (Below.refl _ _) rfl _ rfl
                    case r1_7 =>
                      intro wq hbw st  K hK
                      have KQ := KW.out.trans (hbw.mono KW.out.size)
                      simp only [Act.put, List.setIfInBounds_toArray, List.set_cons_zero, List.set_cons_succ] at hK ⊢
                      unfold opStep
                      rw [if_pos (by rfl)]
                      have dd := Lib.hid (HN2.out.1 wq KQ)
                      have d0 := dd.out.1
                      have d1 := dd.out.2.1
                      have d2 := dd.out.2.2.1
                      have d3 := dd.out.2.2.2.1
                      have d4 := dd.out.2.2.2.2.1
                      have d5 := dd.out.2.2.2.2.2
                      go_simp
                      exact hK.out _ _ (Below.refl _ _) rfl _ rfl
                    case r1_8 =>
                      intro wq hbw st  K hK
                      have KQ := KW.out.trans (hbw.mono KW.out.size)
                      simp only [Act.put, List.setIfInBounds_toArray, List.set_cons_zero, List.set_cons_succ] at hK ⊢
                      unfold opStep
                      rw [if_pos (by rfl)]
                      go_simp
                      have hpc := rbefore_any _ _ o y wq ⟨_, _, rfl, HN.out.2.1.keep KQ, HN.out.2.2.keep KQ⟩ ⟨_, _, rfl, HN2.out.2.1.keep KQ, HN2.out.2.2.keep KQ⟩
                      rw [P1.out] at hpc
                      refine hpc.mono ?_
                      rintro e wz ⟨rfl, hbz⟩
                      go_simp
                      exact hK.out _ _ hbz rfl _ rfl
                    case r1_9 =>
                      intro wq hbw st  K hK
                      have KQ := KW.out.trans (hbw.mono KW.out.size)
                      simp only [Act.put, List.setIfInBounds_toArray, List.set_cons_zero, List.set_cons_succ] at hK ⊢
                      unfold opStep
                      rw [if_pos (by rfl)]
                      go_simp
                      exact hK.out _ _ (Below.refl _ _) rfl _ rfl
                    case r1_10 =>
                      intro wq hbw st  K hK
                      have KQ := KW.out.trans (hbw.mono KW.out.size)
                      simp only [Act.put, List.setIfInBounds_toArray, List.set_cons_zero, List.set_cons_succ] at hK ⊢
                      unfold opStep
                      rw [if_pos (by rfl)]
                      go_simp
                      exact hK.out _ _ (Below.refl _ _) rfl _ rfl
                    case r1_11 =>
                      intro wq hbw st  K hK
                      have KQ := KW.out.trans (hbw.mono KW.out.size)
                      simp only [Act.put, List.setIfInBounds_toArray, List.set_cons_zero, List.set_cons_succ] at hK ⊢
                      unfold opStep
                      rw [if_pos (by rfl)]
                      go_simp
                      exact hK.out _ _ (Below.refl _ _) rfl _ rfl
                    case r1_12 =>
                      intro wq hbw st  K hK
                      have KQ := KW.out.trans (hbw.mono KW.out.size)
                      simp only [Act.put, List.setIfInBounds_toArray, List.set_cons_zero, List.set_cons_succ] at hK ⊢
                      unfold opStep
                      rw [if_pos (by rfl)]
                      go_simp
                      exact hK.out _ _ (Below.refl _ _) rfl _ rfl
                    case r1_13 =>
                      intro wq hbw st  K hK
                      have KQ := KW.out.trans (hbw.mono KW.out.size)
                      simp only [Act.put, List.setIfInBounds_toArray, List.set_cons_zero, List.set_cons_succ] at hK ⊢
                      unfold opStep
                      rw [if_pos (by rfl)]
                      have cz := HCZ.out wq hbw
                      go_simp
                      exact hK.out _ _ (Below.refl _ _) rfl _ rfl
                    case r1_14 =>
                      intro wq hbw st  K hK
                      have KQ := KW.out.trans (hbw.mono KW.out.size)
                      simp only [Act.put, List.setIfInBounds_toArray, List.set_cons_zero, List.set_cons_succ] at hK ⊢
                      unfold opStep
                      rw [if_pos (by rfl)]
                      have hg := HGE.out
                      go_simp
                      exact hK.out _ _ (Below.refl _ _) rfl _ rfl
                    case r1_15 =>
                      intro wq hbw st  K hK
                      have KQ := KW.out.trans (hbw.mono KW.out.size)
                      simp only [Act.put, List.setIfInBounds_toArray, List.set_cons_zero, List.set_cons_succ] at hK ⊢
                      unfold opStep
                      rw [if_pos (by rfl)]
                      go_simp
                      exact hK.out _ _ (Below.refl _ _) rfl _ rfl
                    case r1_16 =>
                      intro wq hbw st  K hK
                      have KQ := KW.out.trans (hbw.mono KW.out.size)
                      simp only [Act.put, List.setIfInBounds_toArray, List.set_cons_zero, List.set_cons_succ] at hK ⊢
                      unfold opStep
                      rw [if_pos (by rfl)]
                      go_simp
                      exact hK.out _ _ (Below.refl _ _) rfl _ rfl
                    case r1_17 =>
                      intro wq hbw st  K hK
                      have KQ := KW.out.trans (hbw.mono KW.out.size)
                      simp only [Act.put, List.setIfInBounds_toArray, List.set_cons_zero, List.set_cons_succ] at hK ⊢
                      unfold opStep
                      rw [if_pos (by rfl)]
                      go_simp
                      exact hK.out _ _ (Below.refl _ _) rfl _ rfl
                    case r1_18 =>
                      intro wq hbw st  K hK
                      have KQ := KW.out.trans (hbw.mono KW.out.size)
                      simp only [Act.put, List.setIfInBounds_toArray, List.set_cons_zero, List.set_cons_succ] at hK ⊢
                      unfold opStep
                      rw [if_pos (by rfl)]
                      go_simp
                      exact hK.out _ _ (Below.refl _ _) rfl _ rfl
                    case r1_19 =>
                      intro wq hbw st  K hK
                      have KQ := KW.out.trans (hbw.mono KW.out.size)
                      simp only [Act.put, List.setIfInBounds_toArray, List.set_cons_zero, List.set_cons_succ] at hK ⊢
                      unfold opStep
                      rw [if_pos (by rfl)]
                      go_simp
                      exact hK.out _ _ (Below.refl _ _) rfl _ rfl
                    case r1_20 =>
                      intro wq hbw st  K hK
                      have KQ := KW.out.trans (hbw.mono KW.out.size)
                      simp only [Act.put, List.setIfInBounds_toArray, List.set_cons_zero, List.set_cons_succ] at hK ⊢
                      unfold opStep
                      rw [if_pos (by rfl)]
                      have cz := HCZ.out wq hbw
                      go_simp
                      exact hK.out _ _ (Below.refl _ _) rfl _ rfl
                    case r1_21 =>
                      intro wq hbw st  K hK
                      have KQ := KW.out.trans (hbw.mono KW.out.size)
                      simp only [Act.put, List.setIfInBounds_toArray, List.set_cons_zero, List.set_cons_succ] at hK ⊢
                      unfold opStep
                      rw [if_pos (by rfl)]
                      go_simp
                      exact hK.out _ _ (Below.refl _ _) rfl _ rfl
                    case r1_22 =>
                      intro wq hbw st  K hK
                      have KQ := KW.out.trans (hbw.mono KW.out.size)
                      simp only [Act.put, List.setIfInBounds_toArray, List.set_cons_zero, List.set_cons_succ] at hK ⊢
                      unfold opStep
                      rw [if_pos (by rfl)]
                      go_simp
                      exact hK.out _ _ (Below.refl _ _) rfl _ rfl
                    case r1_23 =>
                      intro wq hbw st  K hK
                      have KQ := KW.out.trans (hbw.mono KW.out.size)
                      simp only [Act.put, List.setIfInBounds_toArray, List.set_cons_zero, List.set_cons_succ] at hK ⊢
                      unfold opStep
                      rw [if_pos (by rfl)]
                      go_simp
                      exact hK.out _ _ (Below.refl _ _) rfl _ rfl
                    case r1_24 =>
                      intro wq hbw st  K hK
                      have KQ := KW.out.trans (hbw.mono KW.out.size)
                      simp only [Act.put, List.setIfInBounds_toArray, List.set_cons_zero, List.set_cons_succ] at hK ⊢
                      unfold opStep
                      rw [if_pos (by rfl)]
                      have cx := HCX.out wq hbw
                      go_simp
                      exact hK.out _ _ (Below.refl _ _) rfl _ rfl
                    case r1_25 =>
                      intro wq hbw st  K hK
                      have KQ := KW.out.trans (hbw.mono KW.out.size)
                      simp only [Act.put, List.setIfInBounds_toArray, List.set_cons_zero, List.set_cons_succ] at hK ⊢
                      unfold opStep
                      rw [if_pos (by rfl)]
                      have hg := HLT.out
                      go_simp
                      exact hK.out _ _ (Below.refl _ _) rfl _ rfl
                    case r1_26 =>
                      intro wq hbw st  K hK
                      have KQ := KW.out.trans (hbw.mono KW.out.size)
                      simp only [Act.put, List.setIfInBounds_toArray, List.set_cons_zero, List.set_cons_succ] at hK ⊢
                      unfold opStep
                      rw [if_pos (by rfl)]
                      go_simp
                      exact hK.out _ _ (Below.refl _ _) rfl _ rfl
                    case r1_fin =>
                      intro wq hbw
                      try simp only [FinAll]
                      simp only [Act.put, List.setIfInBounds_toArray, List.set_cons_zero, List.set_cons_succ]
                      replace KW := Lib.hid (KW.out.trans (hbw.mono KW.out.size))
                      clear hbw
                      go_wp2
                      go_ret
                      exact ⟨ret_bool HE.out.symm, KW.out⟩
                  · have HLT := Lib.hid (decide_eq_false hlt)
                    have HG := Lib.hid (HOKS.out fun _ _ => Int.not_lt.1 hlt)
                    clear hp hge hlt
                    go_upto_region 13 with fail
                    refine region_left [.is (.slice (some ⟨b, off, none⟩) h.length cap), .is (.int .i64 (x : Int)), .is (.pointer (some ⟨b, off + x * 6, none⟩)), .is (.agg #[.int .i64 (cliO o), .int .i64 (kindO o), .int .i64 (begO o), .int .i64 (endO o), .slice a4 (addO o).length c4, .slice a5 (seeO o).length c5]), .is (.slice (some ⟨b, off, none⟩) h.length cap), .is (.int .i64 (z : Int)), .is (.pointer (some ⟨b, off + z * 6, none⟩)), .is (.agg #[.int .i64 (cliO y), .int .i64 (kindO y), .int .i64 (begO y), .int .i64 (endO y), .slice d4 (addO y).length k4, .slice d5 (seeO y).length k5]), .is (.bool true), .is (.bool true), .is (.slice (some ⟨ba, oa, none⟩) h.length ak), .is (.int .i64 (z : Int)), .is (.pointer (some ⟨ba, oa + z, none⟩)), .is (.int .i64 pz), .is (.bool true), .is (.bool true), .is (.bool true), .is (.slice (some ⟨ba, oa, none⟩) h.length ak), .is (.int .i64 (z : Int)), .is (.pointer (some ⟨ba, oa + z, none⟩)), .is (.int .i64 pz), .is (.slice (some ⟨ba, oa, none⟩) h.length ak), .is (.int .i64 (x : Int)), .is (.pointer (some ⟨ba, oa + x, none⟩)), .is (.int .i64 px), .is (.bool false), .is (.bool false)] (by kernel_rfl) rfl (by kernel_rfl) (by kernel_rfl) (.cons ?r2_0 (.cons ?r2_1 (.cons ?r2_2 (.cons ?r2_3 (.cons ?r2_4 (.cons ?r2_5 (.cons ?r2_6 (.cons ?r2_7 (.cons ?r2_8 (.cons ?r2_9 (.cons ?r2_10 (.cons ?r2_11 (.cons ?r2_12 (.cons ?r2_13 (.cons ?r2_14 (.cons ?r2_15 (.cons ?r2_16 (.cons ?r2_17 (.cons ?r2_18 (.cons ?r2_19 (.cons ?r2_20 (.cons ?r2_21 (.cons ?r2_22 (.cons ?r2_23 (.cons ?r2_24 (.cons ?r2_25 (.cons ?r2_26 .nil))))))))))))))))))))))))))) ?r2_fin
                    case r2_0 =>
                      intro wq hbw st  K hK
                      have KQ := KW.out.trans (hbw.mono KW.out.size)
                      simp only [Act.put, List.setIfInBounds_toArray, List.set_cons_zero, List.set_cons_succ] at hK ⊢
                      unfold opStep
                      rw [if_pos (by rfl)]
                      go_simp
                      exact hK.out _ _ (Below.refl _ _) rfl _ rfl
                    case r2_1 =>
                      intro wq hbw st  K hK
                      have KQ := KW.out.trans (hbw.mono KW.out.size)
                      simp only [Act.put, List.setIfInBounds_toArray, List.set_cons_zero, List.set_cons_succ] at hK ⊢
                      unfold opStep
                      rw [if_pos (by rfl)]
                      go_simp
                      exact hK.out _ _ (Below.refl _ _) rfl _ rfl
                    case r2_2 =>
                      intro wq hbw st  K hK
                      have KQ := KW.out.trans (hbw.mono KW.out.size)
                      simp only [Act.put, List.setIfInBounds_toArray, List.set_cons_zero, List.set_cons_succ] at hK ⊢
                      unfold opStep
                      rw [if_pos (by rfl)]
                      go_simp
                      exact hK.out _ _ (Below.refl _ _) rfl _ rfl
                    case r2_3 =>
                      intro wq hbw st  K hK
                      have KQ := KW.out.trans (hbw.mono KW.out.size)
                      simp only [Act.put, List.setIfInBounds_toArray, List.set_cons_zero, List.set_cons_succ] at hK ⊢
                      unfold opStep
                      rw [if_pos (by rfl)]
                      have dd := Lib.hid (HN.out.1 wq KQ)
                      have d0 := dd.out.1
                      have d1 := dd.out.2.1
                      have d2 := dd.out.2.2.1
                      have d3 := dd.out.2.2.2.1
                      have d4 := dd.out.2.2.2.2.1
                      have d5 := dd.out.2.2.2.2.2
                      go_simp
                      exact hK.out _ _ (Below.refl _ _) rfl _ rfl
                    case r2_4 =>
                      intro wq hbw st  K hK
                      have KQ := KW.out.trans (hbw.mono KW.out.size)
                      simp only [Act.put, List.setIfInBounds_toArray, List.set_cons_zero, List.set_cons_succ] at hK ⊢
                      unfold opStep
                      rw [if_pos (by rfl)]
                      go_simp
                      exact hK.out _ _ (Below.refl _ _) rfl _ rfl
                    case r2_5 =>
                      intro wq hbw st  K hK
                      have KQ := KW.out.trans (hbw.mono KW.out.size)
                      simp only [Act.put, List.setIfInBounds_toArray, List.set_cons_zero, List.set_cons_succ] at hK ⊢
                      unfold opStep
                      rw [if_pos (by rfl)]
                      go_simp
                      exact hK.out _ _ (Below.refl _ _) rfl _ rfl
                    case r2_6 =>
                      intro wq hbw st  K hK
                      have KQ := KW.out.trans (hbw.mono KW.out.size)
                      simp only [Act.put, List.setIfInBounds_toArray, List.set_cons_zero, List.set_cons_succ] at hK ⊢
                      unfold opStep
                      rw [if_pos (by rfl)]
                      go_simp
                      exact hK.out _ _ (Below.refl _ _) rfl _ rfl
                    case r2_7 =>
                      intro wq hbw st  K hK
                      have KQ := KW.out.trans (hbw.mono KW.out.size)
                      simp only [Act.put, List.setIfInBounds_toArray, List.set_cons_zero, List.set_cons_succ] at hK ⊢
                      unfold opStep
                      rw [if_pos (by rfl)]
                      have dd := Lib.hid (HN2.out.1 wq KQ)
                      have d0 := dd.out.1
                      have d1 := dd.out.2.1
                      have d2 := dd.out.2.2.1
                      have d3 := dd.out.2.2.2.1
                      have d4 := dd.out.2.2.2.2.1
                      have d5 := dd.out.2.2.2.2.2
                      go_simp
                      exact hK.out _ _ (Below.refl _ _) rfl _ rfl
                    case r2_8 =>
                      intro wq hbw st  K hK
                      have KQ := KW.out.trans (hbw.mono KW.out.size)
                      simp only [Act.put, List.setIfInBounds_toArray, List.set_cons_zero, List.set_cons_succ] at hK ⊢
                      unfold opStep
                      rw [if_pos (by rfl)]
                      go_simp
                      have hpc := rbefore_any _ _ o y wq ⟨_, _, rfl, HN.out.2.1.keep KQ, HN.out.2.2.keep KQ⟩ ⟨_, _, rfl, HN2.out.2.1.keep KQ, HN2.out.2.2.keep KQ⟩
                      rw [P1.out] at hpc
                      refine hpc.mono ?_
                      rintro e wz ⟨rfl, hbz⟩
                      go_simp
                      exact hK.out _ _ hbz rfl _ rfl
                    case r2_9 =>
                      intro wq hbw st  K hK
                      have KQ := KW.out.trans (hbw.mono KW.out.size)
                      simp only [Act.put, List.setIfInBounds_toArray, List.set_cons_zero, List.set_cons_succ] at hK ⊢
                      unfold opStep
                      rw [if_pos (by rfl)]
                      go_simp
                      exact hK.out _ _ (Below.refl _ _) rfl _ rfl
                    case r2_10 =>
                      intro wq hbw st  K hK
                      have KQ := KW.out.trans (hbw.mono KW.out.size)
                      simp only [Act.put, List.setIfInBounds_toArray, List.set_cons_zero, List.set_cons_succ] at hK ⊢
                      unfold opStep
                      rw [if_pos (by rfl)]
                      go_simp
                      exact hK.out _ _ (Below.refl _ _) rfl _ rfl
                    case r2_11 =>
                      intro wq hbw st  K hK
                      have KQ := KW.out.trans (hbw.mono KW.out.size)
                      simp only [Act.put, List.setIfInBounds_toArray, List.set_cons_zero, List.set_cons_succ] at hK ⊢
                      unfold opStep
                      rw [if_pos (by rfl)]
                      go_simp
                      exact hK.out _ _ (Below.refl _ _) rfl _ rfl
                    case r2_12 =>
                      intro wq hbw st  K hK
                      have KQ := KW.out.trans (hbw.mono KW.out.size)
                      simp only [Act.put, List.setIfInBounds_toArray, List.set_cons_zero, List.set_cons_succ] at hK ⊢
                      unfold opStep
                      rw [if_pos (by rfl)]
                      go_simp
                      exact hK.out _ _ (Below.refl _ _) rfl _ rfl
                    case r2_13 =>
                      intro wq hbw st  K hK
                      have KQ := KW.out.trans (hbw.mono KW.out.size)
                      simp only [Act.put, List.setIfInBounds_toArray, List.set_cons_zero, List.set_cons_succ] at hK ⊢
                      unfold opStep
                      rw [if_pos (by rfl)]
                      have cz := HCZ.out wq hbw
                      go_simp
                      exact hK.out _ _ (Below.refl _ _) rfl _ rfl
                    case r2_14 =>
                      intro wq hbw st  K hK
                      have KQ := KW.out.trans (hbw.mono KW.out.size)
                      simp only [Act.put, List.setIfInBounds_toArray, List.set_cons_zero, List.set_cons_succ] at hK ⊢
                      unfold opStep
                      rw [if_pos (by rfl)]
                      have hg := HGE.out
                      go_simp
                      exact hK.out _ _ (Below.refl _ _) rfl _ rfl
                    case r2_15 =>
                      intro wq hbw st  K hK
                      have KQ := KW.out.trans (hbw.mono KW.out.size)
                      simp only [Act.put, List.setIfInBounds_toArray, List.set_cons_zero, List.set_cons_succ] at hK ⊢
                      unfold opStep
                      rw [if_pos (by rfl)]
                      go_simp
                      exact hK.out _ _ (Below.refl _ _) rfl _ rfl
                    case r2_16 =>
                      intro wq hbw st  K hK
                      have KQ := KW.out.trans (hbw.mono KW.out.size)
                      simp only [Act.put, List.setIfInBounds_toArray, List.set_cons_zero, List.set_cons_succ] at hK ⊢
                      unfold opStep
                      rw [if_pos (by rfl)]
                      go_simp
                      exact hK.out _ _ (Below.refl _ _) rfl _ rfl
                    case r2_17 =>
                      intro wq hbw st  K hK
                      have KQ := KW.out.trans (hbw.mono KW.out.size)
                      simp only [Act.put, List.setIfInBounds_toArray, List.set_cons_zero, List.set_cons_succ] at hK ⊢
                      unfold opStep
                      rw [if_pos (by rfl)]
                      go_simp
                      exact hK.out _ _ (Below.refl _ _) rfl _ rfl
                    case r2_18 =>
                      intro wq hbw st  K hK
                      have KQ := KW.out.trans (hbw.mono KW.out.size)
                      simp only [Act.put, List.setIfInBounds_toArray, List.set_cons_zero, List.set_cons_succ] at hK ⊢
                      unfold opStep
                      rw [if_pos (by rfl)]
                      go_simp
                      exact hK.out _ _ (Below.refl _ _) rfl _ rfl
                    case r2_19 =>
                      intro wq hbw st  K hK
                      have KQ := KW.out.trans (hbw.mono KW.out.size)
                      simp only [Act.put, List.setIfInBounds_toArray, List.set_cons_zero, List.set_cons_succ] at hK ⊢
                      unfold opStep
                      rw [if_pos (by rfl)]
                      go_simp
                      exact hK.out _ _ (Below.refl _ _) rfl _ rfl
                    case r2_20 =>
                      intro wq hbw st  K hK
                      have KQ := KW.out.trans (hbw.mono KW.out.size)
                      simp only [Act.put, List.setIfInBounds_toArray, List.set_cons_zero, List.set_cons_succ] at hK ⊢
                      unfold opStep
                      rw [if_pos (by rfl)]
                      have cz := HCZ.out wq hbw
                      go_simp
                      exact hK.out _ _ (Below.refl _ _) rfl _ rfl
                    case r2_21 =>
                      intro wq hbw st  K hK
                      have KQ := KW.out.trans (hbw.mono KW.out.size)
                      simp only [Act.put, List.setIfInBounds_toArray, List.set_cons_zero, List.set_cons_succ] at hK ⊢
                      unfold opStep
                      rw [if_pos (by rfl)]
                      go_simp
                      exact hK.out _ _ (Below.refl _ _) rfl _ rfl
                    case r2_22 =>
                      intro wq hbw st  K hK
                      have KQ := KW.out.trans (hbw.mono KW.out.size)
                      simp only [Act.put, List.setIfInBounds_toArray, List.set_cons_zero, List.set_cons_succ] at hK ⊢
                      unfold opStep
                      rw [if_pos (by rfl)]
                      go_simp
                      exact hK.out _ _ (Below.refl _ _) rfl _ rfl
                    case r2_23 =>
                      intro wq hbw st  K hK
                      have KQ := KW.out.trans (hbw.mono KW.out.size)
                      simp only [Act.put, List.setIfInBounds_toArray, List.set_cons_zero, List.set_cons_succ] at hK ⊢
                      unfold opStep
                      rw [if_pos (by rfl)]
                      go_simp
                      exact hK.out _ _ (Below.refl _ _) rfl _ rfl
                    case r2_24 =>
                      intro wq hbw st  K hK
                      have KQ := KW.out.trans (hbw.mono KW.out.size)
                      simp only [Act.put, List.setIfInBounds_toArray, List.set_cons_zero, List.set_cons_succ] at hK ⊢
                      unfold opStep
                      rw [if_pos (by rfl)]
                      have cx := HCX.out wq hbw
                      go_simp
                      exact hK.out _ _ (Below.refl _ _) rfl _ rfl
                    case r2_25 =>
                      intro wq hbw st  K hK
                      have KQ := KW.out.trans (hbw.mono KW.out.size)
                      simp only [Act.put, List.setIfInBounds_toArray, List.set_cons_zero, List.set_cons_succ] at hK ⊢
                      unfold opStep
                      rw [if_pos (by rfl)]
                      have hg := HLT.out
                      go_simp
                      exact hK.out _ _ (Below.refl _ _) rfl _ rfl
                    case r2_26 =>
                      intro wq hbw st  K hK
                      have KQ := KW.out.trans (hbw.mono KW.out.size)
                      simp only [Act.put, List.setIfInBounds_toArray, List.set_cons_zero, List.set_cons_succ] at hK ⊢
                      unfold opStep
                      rw [if_pos (by rfl)]
                      go_simp
                      exact hK.out _ _ (Below.refl _ _) rfl _ rfl
                    case r2_fin =>
                      intro wq hbw
                      try simp only [FinAll]
                      simp only [Act.put, List.setIfInBounds_toArray, List.set_cons_zero, List.set_cons_succ]
                      have K3 := Lib.hid (KZ.out.trans (hbw.mono KZ.out.size))
                      clear hbw
                      go_wp2
                      go_roundg (h.length - (z + 1))
                      case measure => have := HM4.out; omega
                      case rel => exact ⟨z + 1, by omega, by go_num, K3.out, HG.out⟩
                · have HGE := Lib.hid (decide_eq_false hge)
                  have HG := Lib.hid (HOKS.out fun _ q => absurd q hge)
                  clear hp hge
                  go_upto_region 13 with fail
                  refine region_left [.is (.slice (some ⟨b, off, none⟩) h.length cap), .is (.int .i64 (x : Int)), .is (.pointer (some ⟨b, off + x * 6, none⟩)), .is (.agg #[.int .i64 (cliO o), .int .i64 (kindO o), .int .i64 (begO o), .int .i64 (endO o), .slice a4 (addO o).length c4, .slice a5 (seeO o).length c5]), .is (.slice (some ⟨b, off, none⟩) h.length cap), .is (.int .i64 (z : Int)), .is (.pointer (some ⟨b, off + z * 6, none⟩)), .is (.agg #[.int .i64 (cliO y), .int .i64 (kindO y), .int .i64 (begO y), .int .i64 (endO y), .slice d4 (addO y).length k4, .slice d5 (seeO y).length k5]), .is (.bool true), .is (.bool true), .is (.slice (some ⟨ba, oa, none⟩) h.length ak), .is (.int .i64 (z : Int)), .is (.pointer (some ⟨ba, oa + z, none⟩)), .is (.int .i64 pz), .is (.bool false), .is (.bool false), .is (.bool false), .is undef, .is undef, .is undef, .is undef, .is undef, .is undef, .is undef, .is undef, .is undef, .is (.bool false)] (by kernel_rfl) rfl (by kernel_rfl) (by kernel_rfl) (.cons ?r3_0 (.cons ?r3_1 (.cons ?r3_2 (.cons ?r3_3 (.cons ?r3_4 (.cons ?r3_5 (.cons ?r3_6 (.cons ?r3_7 (.cons ?r3_8 (.cons ?r3_9 (.cons ?r3_10 (.cons ?r3_11 (.cons ?r3_12 (.cons ?r3_13 (.cons ?r3_14 (.cons ?r3_15 (.cons ?r3_16 (.cons ?r3_17 (.cons ?r3_18 (.cons ?r3_19 (.cons ?r3_20 (.cons ?r3_21 (.cons ?r3_22 (.cons ?r3_23 (.cons ?r3_24 (.cons ?r3_25 (.cons ?r3_26 .nil))))))))))))))))))))))))))) ?r3_fin
                  case r3_0 =>
                    intro wq hbw st  K hK
                    have KQ := KW.out.trans (hbw.mono KW.out.size)
                    simp only [Act.put, List.setIfInBounds_toArray, List.set_cons_zero, List.set_cons_succ] at hK ⊢
                    unfold opStep
                    rw [if_pos (by rfl)]
                    go_simp
                    exact hK.out _ _ (Below.refl _ _) rfl _ rfl
                  case r3_1 =>
                    intro wq hbw st  K hK
                    have KQ := KW.out.trans (hbw.mono KW.out.size)
                    simp only [Act.put, List.setIfInBounds_toArray, List.set_cons_zero, List.set_cons_succ] at hK ⊢
                    unfold opStep
                    rw [if_pos (by rfl)]
                    go_simp
                    exact hK.out _ _ (Below.refl _ _) rfl _ rfl
                  case r3_2 =>
                    intro wq hbw st  K hK
                    have KQ := KW.out.trans (hbw.mono KW.out.size)
                    simp only [Act.put, List.setIfInBounds_toArray, List.set_cons_zero, List.set_cons_succ] at hK ⊢
                    unfold opStep
                    rw [if_pos (by rfl)]
                    go_simp
                    exact hK.out _ _ (Below.refl _ _) rfl _ rfl
                  case r3_3 =>
                    intro wq hbw st  K hK
                    have KQ := KW.out.trans (hbw.mono KW.out.size)
                    simp only [Act.put, List.setIfInBounds_toArray, List.set_cons_zero, List.set_cons_succ] at hK ⊢
                    unfold opStep
                    rw [if_pos (by rfl)]
                    have dd := Lib.hid (HN.out.1 wq KQ)
                    have d0 := dd.out.1
                    have d1 := dd.out.2.1
                    have d2 := dd.out.2.2.1
                    have d3 := dd.out.2.2.2.1
                    have d4 := dd.out.2.2.2.2.1
                    have d5 := dd.out.2.2.2.2.2
                    go_simp
                    exact hK.out _ _ (Below.refl _ _) rfl _ rfl
                  case r3_4 =>
                    intro wq hbw st  K hK
                    have KQ := KW.out.trans (hbw.mono KW.out.size)
                    simp only [Act.put, List.setIfInBounds_toArray, List.set_cons_zero, List.set_cons_succ] at hK ⊢
                    unfold opStep
                    rw [if_pos (by rfl)]
                    go_simp
                    exact hK.out _ _ (Below.refl _ _) rfl _ rfl
                  case r3_5 =>
                    intro wq hbw st  K hK
                    have KQ := KW.out.trans (hbw.mono KW.out.size)
                    simp only [Act.put, List.setIfInBounds_toArray, List.set_cons_zero, List.set_cons_succ] at hK ⊢
                    unfold opStep
                    rw [if_pos (by rfl)]
                    go_simp
                    exact hK.out _ _ (Below.refl _ _) rfl _ rfl
                  case r3_6 =>
                    intro wq hbw st  K hK
                    have KQ := KW.out.trans (hbw.mono KW.out.size)
                    simp only [Act.put, List.setIfInBounds_toArray, List.set_cons_zero, List.set_cons_succ] at hK ⊢
                    unfold opStep
                    rw [if_pos (by rfl)]
                    go_simp
                    exact hK.out _ _ (Below.refl _ _) rfl _ rfl
                  case r3_7 =>
                    intro wq hbw st  K hK
                    have KQ := KW.out.trans (hbw.mono KW.out.size)
                    simp only [Act.put, List.setIfInBounds_toArray, List.set_cons_zero, List.set_cons_succ] at hK ⊢
                    unfold opStep
                    rw [if_pos (by rfl)]
                    have dd := Lib.hid (HN2.out.1 wq KQ)
                    have d0 := dd.out.1
                    have d1 := dd.out.2.1
                    have d2 := dd.out.2.2.1
                    have d3 := dd.out.2.2.2.1
                    have d4 := dd.out.2.2.2.2.1
                    have d5 := dd.out.2.2.2.2.2
                    go_simp
                    exact hK.out _ _ (Below.refl _ _) rfl _ rfl
                  case r3_8 =>
                    intro wq hbw st  K hK
                    have KQ := KW.out.trans (hbw.mono KW.out.size)
                    simp only [Act.put, List.setIfInBounds_toArray, List.set_cons_zero, List.set_cons_succ] at hK ⊢
                    unfold opStep
                    rw [if_pos (by rfl)]
                    go_simp
                    have hpc := rbefore_any _ _ o y wq ⟨_, _, rfl, HN.out.2.1.keep KQ, HN.out.2.2.keep KQ⟩ ⟨_, _, rfl, HN2.out.2.1.keep KQ, HN2.out.2.2.keep KQ⟩
                    rw [P1.out] at hpc
                    refine hpc.mono ?_
                    rintro e wz ⟨rfl, hbz⟩
                    go_simp
                    exact hK.out _ _ hbz rfl _ rfl
                  case r3_9 =>
                    intro wq hbw st  K hK
                    have KQ := KW.out.trans (hbw.mono KW.out.size)
                    simp only [Act.put, List.setIfInBounds_toArray, List.set_cons_zero, List.set_cons_succ] at hK ⊢
                    unfold opStep
                    rw [if_pos (by rfl)]
                    go_simp
                    exact hK.out _ _ (Below.refl _ _) rfl _ rfl
                  case r3_10 =>
                    intro wq hbw st  K hK
                    have KQ := KW.out.trans (hbw.mono KW.out.size)
                    simp only [Act.put, List.setIfInBounds_toArray, List.set_cons_zero, List.set_cons_succ] at hK ⊢
                    unfold opStep
                    rw [if_pos (by rfl)]
                    go_simp
                    exact hK.out _ _ (Below.refl _ _) rfl _ rfl
                  case r3_11 =>
                    intro wq hbw st  K hK
                    have KQ := KW.out.trans (hbw.mono KW.out.size)
                    simp only [Act.put, List.setIfInBounds_toArray, List.set_cons_zero, List.set_cons_succ] at hK ⊢
                    unfold opStep
                    rw [if_pos (by rfl)]
                    go_simp
                    exact hK.out _ _ (Below.refl _ _) rfl _ rfl
                  case r3_12 =>
                    intro wq hbw st  K hK
                    have KQ := KW.out.trans (hbw.mono KW.out.size)
                    simp only [Act.put, List.setIfInBounds_toArray, List.set_cons_zero, List.set_cons_succ] at hK ⊢
                    unfold opStep
                    rw [if_pos (by rfl)]
                    go_simp
                    exact hK.out _ _ (Below.refl _ _) rfl _ rfl
                  case r3_13 =>
                    intro wq hbw st  K hK
                    have KQ := KW.out.trans (hbw.mono KW.out.size)
                    simp only [Act.put, List.setIfInBounds_toArray, List.set_cons_zero, List.set_cons_succ] at hK ⊢
                    unfold opStep
                    rw [if_pos (by rfl)]
                    have cz := HCZ.out wq hbw
                    go_simp
                    exact hK.out _ _ (Below.refl _ _) rfl _ rfl
                  case r3_14 =>
                    intro wq hbw st  K hK
                    have KQ := KW.out.trans (hbw.mono KW.out.size)
                    simp only [Act.put, List.setIfInBounds_toArray, List.set_cons_zero, List.set_cons_succ] at hK ⊢
                    unfold opStep
                    rw [if_pos (by rfl)]
                    have hg := HGE.out
                    go_simp
                    exact hK.out _ _ (Below.refl _ _) rfl _ rfl
                  case r3_15 =>
                    intro wq hbw st  K hK
                    have KQ := KW.out.trans (hbw.mono KW.out.size)
                    simp only [Act.put, List.setIfInBounds_toArray, List.set_cons_zero, List.set_cons_succ] at hK ⊢
                    unfold opStep
                    rw [if_pos (by rfl)]
                    go_simp
                    exact hK.out _ _ (Below.refl _ _) rfl _ rfl
                  case r3_16 =>
                    intro wq hbw st  K hK
                    have KQ := KW.out.trans (hbw.mono KW.out.size)
                    simp only [Act.put, List.setIfInBounds_toArray, List.set_cons_zero, List.set_cons_succ] at hK ⊢
                    unfold opStep
                    rw [if_pos (by rfl)]
                    go_simp
                    exact hK.out _ _ (Below.refl _ _) rfl _ rfl
                  case r3_17 =>
                    intro wq hbw st  K hK
                    have KQ := KW.out.trans (hbw.mono KW.out.size)
                    simp only [Act.put, List.setIfInBounds_toArray, List.set_cons_zero, List.set_cons_succ] at hK ⊢
                    unfold opStep
                    rw [if_neg (by change ¬ (false = true); exact Bool.false_ne_true)]
                    exact hK.out _ _ (Below.refl _ _) rfl _ rfl
                  case r3_18 =>
                    intro wq hbw st  K hK
                    have KQ := KW.out.trans (hbw.mono KW.out.size)
                    simp only [Act.put, List.setIfInBounds_toArray, List.set_cons_zero, List.set_cons_succ] at hK ⊢
                    unfold opStep
                    rw [if_neg (by change ¬ (false = true); exact Bool.false_ne_true)]
                    exact hK.out _ _ (Below.refl _ _) rfl _ rfl
                  case r3_19 =>
                    intro wq hbw st  K hK
                    have KQ := KW.out.trans (hbw.mono KW.out.size)
                    simp only [Act.put, List.setIfInBounds_toArray, List.set_cons_zero, List.set_cons_succ] at hK ⊢
                    unfold opStep
                    rw [if_neg (by change ¬ (false = true); exact Bool.false_ne_true)]
                    exact hK.out _ _ (Below.refl _ _) rfl _ rfl
                  case r3_20 =>
                    intro wq hbw st  K hK
                    have KQ := KW.out.trans (hbw.mono KW.out.size)
                    simp only [Act.put, List.setIfInBounds_toArray, List.set_cons_zero, List.set_cons_succ] at hK ⊢
                    unfold opStep
                    rw [if_neg (by change ¬ (false = true); exact Bool.false_ne_true)]
                    exact hK.out _ _ (Below.refl _ _) rfl _ rfl
                  case r3_21 =>
                    intro wq hbw st  K hK
                    have KQ := KW.out.trans (hbw.mono KW.out.size)
                    simp only [Act.put, List.setIfInBounds_toArray, List.set_cons_zero, List.set_cons_succ] at hK ⊢
                    unfold opStep
                    rw [if_neg (by change ¬ (false = true); exact Bool.false_ne_true)]
                    exact hK.out _ _ (Below.refl _ _) rfl _ rfl
                  case r3_22 =>
                    intro wq hbw st  K hK
                    have KQ := KW.out.trans (hbw.mono KW.out.size)
                    simp only [Act.put, List.setIfInBounds_toArray, List.set_cons_zero, List.set_cons_succ] at hK ⊢
                    unfold opStep
                    rw [if_neg (by change ¬ (false = true); exact Bool.false_ne_true)]
                    exact hK.out _ _ (Below.refl _ _) rfl _ rfl
                  case r3_23 =>
                    intro wq hbw st  K hK
                    have KQ := KW.out.trans (hbw.mono KW.out.size)
                    simp only [Act.put, List.setIfInBounds_toArray, List.set_cons_zero, List.set_cons_succ] at hK ⊢
                    unfold opStep
                    rw [if_neg (by change ¬ (false = true); exact Bool.false_ne_true)]
                    exact hK.out _ _ (Below.refl _ _) rfl _ rfl
                  case r3_24 =>
                    intro wq hbw st  K hK
                    have KQ := KW.out.trans (hbw.mono KW.out.size)
                    simp only [Act.put, List.setIfInBounds_toArray, List.set_cons_zero, List.set_cons_succ] at hK ⊢
                    unfold opStep
                    rw [if_neg (by change ¬ (false = true); exact Bool.false_ne_true)]
                    exact hK.out _ _ (Below.refl _ _) rfl _ rfl
                  case r3_25 =>
                    intro wq hbw st  K hK
                    have KQ := KW.out.trans (hbw.mono KW.out.size)
                    simp only [Act.put, List.setIfInBounds_toArray, List.set_cons_zero, List.set_cons_succ] at hK ⊢
                    unfold opStep
                    rw [if_neg (by change ¬ (false = true); exact Bool.false_ne_true)]
                    exact hK.out _ _ (Below.refl _ _) rfl _ rfl
                  case r3_26 =>
                    intro wq hbw st  K hK
                    have KQ := KW.out.trans (hbw.mono KW.out.size)
                    simp only [Act.put, List.setIfInBounds_toArray, List.set_cons_zero, List.set_cons_succ] at hK ⊢
                    unfold opStep
                    rw [if_pos (by rfl)]
                    go_simp
                    exact hK.out _ _ (Below.refl _ _) rfl _ rfl
                  case r3_fin =>
                    intro wq hbw
                    try simp only [FinAll]
                    simp only [Act.put, List.setIfInBounds_toArray, List.set_cons_zero, List.set_cons_succ]
                    have K3 := Lib.hid (KZ.out.trans (hbw.mono KZ.out.size))
                    clear hbw
                    go_wp2
                    go_roundg (h.length - (z + 1))
                    case measure => have := HM4.out; omega
                    case rel => exact ⟨z + 1, by omega, by go_num, K3.out, HG.out⟩
              | false =>
                have P1 := Lib.hid hp
                have HG := Lib.hid (HOKS.out fun q => by rw [hp] at q; cases q)
                clear hp
                go_upto_region 13 with fail
                refine region_left [.is (.slice (some ⟨b, off, none⟩) h.length cap), .is (.int .i64 (x : Int)), .is (.pointer (some ⟨b, off + x * 6, none⟩)), .is (.agg #[.int .i64 (cliO o), .int .i64 (kindO o), .int .i64 (begO o), .int .i64 (endO o), .slice a4 (addO o).length c4, .slice a5 (seeO o).length c5]), .is (.slice (some ⟨b, off, none⟩) h.length cap), .is (.int .i64 (z : Int)), .is (.pointer (some ⟨b, off + z * 6, none⟩)), .is (.agg #[.int .i64 (cliO y), .int .i64 (kindO y), .int .i64 (begO y), .int .i64 (endO y), .slice d4 (addO y).length k4, .slice d5 (seeO y).length k5]), .is (.bool false), .is (.bool false), .is undef, .is undef, .is undef, .is undef, .is undef, .is (.bool false), .is (.bool false), .is undef, .is undef, .is undef, .is undef, .is undef, .is undef, .is undef, .is undef, .is undef, .is (.bool false)] (by kernel_rfl) rfl (by kernel_rfl) (by kernel_rfl) (.cons ?r4_0 (.cons ?r4_1 (.cons ?r4_2 (.cons ?r4_3 (.cons ?r4_4 (.cons ?r4_5 (.cons ?r4_6 (.cons ?r4_7 (.cons ?r4_8 (.cons ?r4_9 (.cons ?r4_10 (.cons ?r4_11 (.cons ?r4_12 (.cons ?r4_13 (.cons ?r4_14 (.cons ?r4_15 (.cons ?r4_16 (.cons ?r4_17 (.cons ?r4_18 (.cons ?r4_19 (.cons ?r4_20 (.cons ?r4_21 (.cons ?r4_22 (.cons ?r4_23 (.cons ?r4_24 (.cons ?r4_25 (.cons ?r4_26 .nil))))))))))))))))))))))))))) ?r4_fin
                case r4_0 =>
                  intro wq hbw st  K hK
                  have KQ := KW.out.trans (hbw.mono KW.out.size)
                  simp only [Act.put, List.setIfInBounds_toArray, List.set_cons_zero, List.set_cons_succ] at hK ⊢
                  unfold opStep
                  rw [if_pos (by rfl)]
                  go_simp
                  exact hK.out _ _ (Below.refl _ _) rfl _ rfl
                case r4_1 =>
                  intro wq hbw st  K hK
                  have KQ := KW.out.trans (hbw.mono KW.out.size)
                  simp only [Act.put, List.setIfInBounds_toArray, List.set_cons_zero, List.set_cons_succ] at hK ⊢
                  unfold opStep
                  rw [if_pos (by rfl)]
                  go_simp
                  exact hK.out _ _ (Below.refl _ _) rfl _ rfl
                case r4_2 =>
                  intro wq hbw st  K hK
                  have KQ := KW.out.trans (hbw.mono KW.out.size)
                  simp only [Act.put, List.setIfInBounds_toArray, List.set_cons_zero, List.set_cons_succ] at hK ⊢
                  unfold opStep
                  rw [if_pos (by rfl)]
                  go_simp
                  exact hK.out _ _ (Below.refl _ _) rfl _ rfl
                case r4_3 =>
                  intro wq hbw st  K hK
                  have KQ := KW.out.trans (hbw.mono KW.out.size)
                  simp only [Act.put, List.setIfInBounds_toArray, List.set_cons_zero, List.set_cons_succ] at hK ⊢
                  unfold opStep
                  rw [if_pos (by rfl)]
                  have dd := Lib.hid (HN.out.1 wq KQ)
                  have d0 := dd.out.1
                  have d1 := dd.out.2.1
                  have d2 := dd.out.2.2.1
                  have d3 := dd.out.2.2.2.1
                  have d4 := dd.out.2.2.2.2.1
                  have d5 := dd.out.2.2.2.2.2
                  go_simp
                  exact hK.out _ _ (Below.refl _ _) rfl _ rfl
                case r4_4 =>
                  intro wq hbw st  K hK
                  have KQ := KW.out.trans (hbw.mono KW.out.size)
                  simp only [Act.put, List.setIfInBounds_toArray, List.set_cons_zero, List.set_cons_succ] at hK ⊢
                  unfold opStep
                  rw [if_pos (by rfl)]
                  go_simp
                  exact hK.out _ _ (Below.refl _ _) rfl _ rfl
                case r4_5 =>
                  intro wq hbw st  K hK
                  have KQ := KW.out.trans (hbw.mono KW.out.size)
                  simp only [Act.put, List.setIfInBounds_toArray, List.set_cons_zero, List.set_cons_succ] at hK ⊢
                  unfold opStep
                  rw [if_pos (by rfl)]
                  go_simp
                  exact hK.out _ _ (Below.refl _ _) rfl _ rfl
                case r4_6 =>
                  intro wq hbw st  K hK
                  have KQ := KW.out.trans (hbw.mono KW.out.size)
                  simp only [Act.put, List.setIfInBounds_toArray, List.set_cons_zero, List.set_cons_succ] at hK ⊢
                  unfold opStep
                  rw [if_pos (by rfl)]
                  go_simp
                  exact hK.out _ _ (Below.refl _ _) rfl _ rfl
                case r4_7 =>
                  intro wq hbw st  K hK
                  have KQ := KW.out.trans (hbw.mono KW.out.size)
                  simp only [Act.put, List.setIfInBounds_toArray, List.set_cons_zero, List.set_cons_succ] at hK ⊢
                  unfold opStep
                  rw [if_pos (by rfl)]
                  have dd := Lib.hid (HN2.out.1 wq KQ)
                  have d0 := dd.out.1
                  have d1 := dd.out.2.1
                  have d2 := dd.out.2.2.1
                  have d3 := dd.out.2.2.2.1
                  have d4 := dd.out.2.2.2.2.1
                  have d5 := dd.out.2.2.2.2.2
                  go_simp
                  exact hK.out _ _ (Below.refl _ _) rfl _ rfl
                case r4_8 =>
                  intro wq hbw st  K hK
                  have KQ := KW.out.trans (hbw.mono KW.out.size)
                  simp only [Act.put, List.setIfInBounds_toArray, List.set_cons_zero, List.set_cons_succ] at hK ⊢
                  unfold opStep
                  rw [if_pos (by rfl)]
                  go_simp
                  have hpc := rbefore_any _ _ o y wq ⟨_, _, rfl, HN.out.2.1.keep KQ, HN.out.2.2.keep KQ⟩ ⟨_, _, rfl, HN2.out.2.1.keep KQ, HN2.out.2.2.keep KQ⟩
                  rw [P1.out] at hpc
                  refine hpc.mono ?_
                  rintro e wz ⟨rfl, hbz⟩
                  go_simp
                  exact hK.out _ _ hbz rfl _ rfl
                case r4_9 =>
                  intro wq hbw st  K hK
                  have KQ := KW.out.trans (hbw.mono KW.out.size)
                  simp only [Act.put, List.setIfInBounds_toArray, List.set_cons_zero, List.set_cons_succ] at hK ⊢
                  unfold opStep
                  rw [if_pos (by rfl)]
                  go_simp
                  exact hK.out _ _ (Below.refl _ _) rfl _ rfl
                case r4_10 =>
                  intro wq hbw st  K hK
                  have KQ := KW.out.trans (hbw.mono KW.out.size)
                  simp only [Act.put, List.setIfInBounds_toArray, List.set_cons_zero, List.set_cons_succ] at hK ⊢
                  unfold opStep
                  rw [if_neg (by change ¬ (false = true); exact Bool.false_ne_true)]
                  exact hK.out _ _ (Below.refl _ _) rfl _ rfl
                case r4_11 =>
                  intro wq hbw st  K hK
                  have KQ := KW.out.trans (hbw.mono KW.out.size)
                  simp only [Act.put, List.setIfInBounds_toArray, List.set_cons_zero, List.set_cons_succ] at hK ⊢
                  unfold opStep
                  rw [if_neg (by change ¬ (false = true); exact Bool.false_ne_true)]
                  exact hK.out _ _ (Below.refl _ _) rfl _ rfl
                case r4_12 =>
                  intro wq hbw st  K hK
                  have KQ := KW.out.trans (hbw.mono KW.out.size)
                  simp only [Act.put, List.setIfInBounds_toArray, List.set_cons_zero, List.set_cons_succ] at hK ⊢
                  unfold opStep
                  rw [if_neg (by change ¬ (false = true); exact Bool.false_ne_true)]
                  exact hK.out _ _ (Below.refl _ _) rfl _ rfl
                case r4_13 =>
                  intro wq hbw st  K hK
                  have KQ := KW.out.trans (hbw.mono KW.out.size)
                  simp only [Act.put, List.setIfInBounds_toArray, List.set_cons_zero, List.set_cons_succ] at hK ⊢
                  unfold opStep
                  rw [if_neg (by change ¬ (false = true); exact Bool.false_ne_true)]
                  exact hK.out _ _ (Below.refl _ _) rfl _ rfl
                case r4_14 =>
                  intro wq hbw st  K hK
                  have KQ := KW.out.trans (hbw.mono KW.out.size)
                  simp only [Act.put, List.setIfInBounds_toArray, List.set_cons_zero, List.set_cons_succ] at hK ⊢
                  unfold opStep
                  rw [if_neg (by change ¬ (false = true); exact Bool.false_ne_true)]
                  exact hK.out _ _ (Below.refl _ _) rfl _ rfl
                case r4_15 =>
                  intro wq hbw st  K hK
                  have KQ := KW.out.trans (hbw.mono KW.out.size)
                  simp only [Act.put, List.setIfInBounds_toArray, List.set_cons_zero, List.set_cons_succ] at hK ⊢
                  unfold opStep
                  rw [if_pos (by rfl)]
                  go_simp
                  exact hK.out _ _ (Below.refl _ _) rfl _ rfl
                case r4_16 =>
                  intro wq hbw st  K hK
                  have KQ := KW.out.trans (hbw.mono KW.out.size)
                  simp only [Act.put, List.setIfInBounds_toArray, List.set_cons_zero, List.set_cons_succ] at hK ⊢
                  unfold opStep
                  rw [if_pos (by rfl)]
                  go_simp
                  exact hK.out _ _ (Below.refl _ _) rfl _ rfl
                case r4_17 =>
                  intro wq hbw st  K hK
                  have KQ := KW.out.trans (hbw.mono KW.out.size)
                  simp only [Act.put, List.setIfInBounds_toArray, List.set_cons_zero, List.set_cons_succ] at hK ⊢
                  unfold opStep
                  rw [if_neg (by change ¬ (false = true); exact Bool.false_ne_true)]
                  exact hK.out _ _ (Below.refl _ _) rfl _ rfl
                case r4_18 =>
                  intro wq hbw st  K hK
                  have KQ := KW.out.trans (hbw.mono KW.out.size)
                  simp only [Act.put, List.setIfInBounds_toArray, List.set_cons_zero, List.set_cons_succ] at hK ⊢
                  unfold opStep
                  rw [if_neg (by change ¬ (false = true); exact Bool.false_ne_true)]
                  exact hK.out _ _ (Below.refl _ _) rfl _ rfl
                case r4_19 =>
                  intro wq hbw st  K hK
                  have KQ := KW.out.trans (hbw.mono KW.out.size)
                  simp only [Act.put, List.setIfInBounds_toArray, List.set_cons_zero, List.set_cons_succ] at hK ⊢
                  unfold opStep
                  rw [if_neg (by change ¬ (false = true); exact Bool.false_ne_true)]
                  exact hK.out _ _ (Below.refl _ _) rfl _ rfl
                case r4_20 =>
                  intro wq hbw st  K hK
                  have KQ := KW.out.trans (hbw.mono KW.out.size)
                  simp only [Act.put, List.setIfInBounds_toArray, List.set_cons_zero, List.set_cons_succ] at hK ⊢
                  unfold opStep
                  rw [if_neg (by change ¬ (false = true); exact Bool.false_ne_true)]
                  exact hK.out _ _ (Below.refl _ _) rfl _ rfl
                case r4_21 =>
                  intro wq hbw st  K hK
                  have KQ := KW.out.trans (hbw.mono KW.out.size)
                  simp only [Act.put, List.setIfInBounds_toArray, List.set_cons_zero, List.set_cons_succ] at hK ⊢
                  unfold opStep
                  rw [if_neg (by change ¬ (false = true); exact Bool.false_ne_true)]
                  exact hK.out _ _ (Below.refl _ _) rfl _ rfl
                case r4_22 =>
                  intro wq hbw st  K hK
                  have KQ := KW.out.trans (hbw.mono KW.out.size)
                  simp only [Act.put, List.setIfInBounds_toArray, List.set_cons_zero, List.set_cons_succ] at hK ⊢
                  unfold opStep
                  rw [if_neg (by change ¬ (false = true); exact Bool.false_ne_true)]
                  exact hK.out _ _ (Below.refl _ _) rfl _ rfl
                case r4_23 =>
                  intro wq hbw st  K hK
                  have KQ := KW.out.trans (hbw.mono KW.out.size)
                  simp only [Act.put, List.setIfInBounds_toArray, List.set_cons_zero, List.set_cons_succ] at hK ⊢
                  unfold opStep
                  rw [if_neg (by change ¬ (false = true); exact Bool.false_ne_true)]
                  exact hK.out _ _ (Below.refl _ _) rfl _ rfl
                case r4_24 =>
                  intro wq hbw st  K hK
                  have KQ := KW.out.trans (hbw.mono KW.out.size)
                  simp only [Act.put, List.setIfInBounds_toArray, List.set_cons_zero, List.set_cons_succ] at hK ⊢
                  unfold opStep
                  rw [if_neg (by change ¬ (false = true); exact Bool.false_ne_true)]
                  exact hK.out _ _ (Below.refl _ _) rfl _ rfl
                case r4_25 =>
                  intro wq hbw st  K hK
                  have KQ := KW.out.trans (hbw.mono KW.out.size)
                  simp only [Act.put, List.setIfInBounds_toArray, List.set_cons_zero, List.set_cons_succ] at hK ⊢
                  unfold opStep
                  rw [if_neg (by change ¬ (false = true); exact Bool.false_ne_true)]
                  exact hK.out _ _ (Below.refl _ _) rfl _ rfl
                case r4_26 =>
                  intro wq hbw st  K hK
                  have KQ := KW.out.trans (hbw.mono KW.out.size)
                  simp only [Act.put, List.setIfInBounds_toArray, List.set_cons_zero, List.set_cons_succ] at hK ⊢
                  unfold opStep
                  rw [if_pos (by rfl)]
                  go_simp
                  exact hK.out _ _ (Below.refl _ _) rfl _ rfl
                case r4_fin =>
                  intro wq hbw
                  try simp only [FinAll]
                  simp only [Act.put, List.setIfInBounds_toArray, List.set_cons_zero, List.set_cons_succ]
                  have K3 := Lib.hid (KZ.out.trans (hbw.mono KZ.out.size))
                  clear hbw
                  go_wp2
                  go_roundg (h.length - (z + 1))
                  case measure => have := HM4.out; omega
                  case rel => exact ⟨z + 1, by omega, by go_num, K3.out, HG.out⟩
            · have hzz : z = h.length := by omega
              have HG : Hid (∀ i j, i < x + 1 → j < h.length → prI h i j = true → 0 ≤ posK is is.length j → posK is is.length i ≤ posK is is.length j) := Lib.hid fun i j hi hj => by
                by_cases e : i = x
                · subst e; exact HROW.out j (by omega)
                · exact HALL.out i j (by omega) hj
              clear HROW HM4 hzz
              go_wp2
              go_roundg (h.length - (x + 1))
              case measure => have := HM.out; omega
              case rel => exact ⟨x + 1, by omega, by go_num, KZ.out, HG.out⟩
        · have hxx : x = h.length := by omega
          have HPC : Hid (∀ i k, i < h.length → k < h.length → prI h i k = true → 0 ≤ posK is is.length k → posK is is.length i ≤ posK is is.length k) := Lib.hid fun i k hi hk => HALL.out i k (by omega) hk
          clear HALL HM hxx HA
          go_wp2
          obtain ⟨wo, hwo⟩ : ∃ x, x = wr := ⟨_, rfl⟩
          rw [← hwo] at KZ ⊢
          clear hwo
          obtain ⟨G4, hG4⟩ : ∃ G, G = gk := ⟨_, rfl⟩
          subst hG4
          go_loopg [11, 12] is.length (fun m a i wr => ∃ j : Nat, m + j = is.length ∧ i = .int .i64 ((j : Nat) : Int) ∧ Below w2.heap.size w2 wr ∧ wr.ownsRow w2.heap.size 9 1 a (addsK h is j).length ((addsK h is j).map vs) ∧ ∀ j' (hj : j' < is.length), j' < j → RdI h is[j'].toNat → ∀ x, x ∈ seeO (nth h is[j'].toNat) ↔ x ∈ addsK h is j')
          case atStart => exact ⟨0, by omega, rfl, KZ.out, World.ownsRow_nil _ _ _ _, fun j' hj h0 => by omega⟩
          case round =>
            clear KZ
            obtain ⟨j, hmj, rfl, hbel, hrow, hall⟩ := hrel
            have HM := Lib.hid hmj
            have KZ := Lib.hid hbel
            have KW := Lib.hid (KW2.out.trans (hbel.mono KW2.out.size))
            have HRO := Lib.hid hrow
            have HALL := Lib.hid hall
            have hj : j ≤ is.length := by omega
            have hal := addsK_len HS.out HOK.out.lt j hj
            obtain ⟨ra, rk, rfl⟩ := row_slc hrow
            clear hmj hbel hrow hall
            by_cases hjl : j < is.length
            · obtain ⟨bo, oo, co, hv, hbo, hco⟩ := int_at (HQ.out.keep KW.out) hjl
              injection hv with e1 e2 e3
              subst e1
              have hji : (j : Int) < is.length := by omega
              have hj0 : (0 : Int) ≤ (j : Int) := by omega
              have q0 := hco
              unfold vi at q0
              have HLT := Lib.hid (HOK.out.lt j hjl)
              have HKI := Lib.hid (HOK.out.kind j hjl)
              have HAU := Lib.hid (fun hu => addsK_up (h := h) hjl hu)
              have HAN := Lib.hid (fun hu => addsK_no (h := h) hjl hu)
              have HSV : Hid (VerP h is → RdI h is[j].toNat → ∀ x, x ∈ seeO (nth h is[j].toNat) ↔ x ∈ addsK h is j) := Lib.hid fun hv hr => see_of_ver hv hjl hr
              have HYS : Hid ((RdI h is[j].toNat → ∀ x, x ∈ seeO (nth h is[j].toNat) ↔ x ∈ addsK h is j) → ∀ j' (hj : j' < is.length), j' < j + 1 → RdI h is[j'].toNat → ∀ x, x ∈ seeO (nth h is[j'].toNat) ↔ x ∈ addsK h is j') := Lib.hid fun h1 j' hj' hlt => by
                by_cases e : j' = j
                · subst e; exact h1
                · exact HALL.out j' hj' (by omega)
              clear e2 e3 hco hbo
              generalize is[j] = xi at *
              obtain ⟨y, hy⟩ := Int.eq_ofNat_of_zero_le HLT.out.1
              subst hy
              have hyn : y < h.length := by have := HLT.out.2; omega
              rw [Int.toNat_natCast] at HKI HAU HAN HSV HYS
              have hyi : (y : Int) < h.length := by omega
              have hy0 : (0 : Int) ≤ (y : Int) := by omega
              obtain ⟨b, off, cap1, a4, c4, a5, c5, hv, _, _, hm4, hm5, hl4, hl5, hcell, r1, r2⟩ := HR.out.at2 hyn
              injection hv with e1 e2 e3
              subst e1
              have dd := Lib.hid (hcell wr KW.out)
              have d0 := dd.out.1
              have d1 := dd.out.2.1
              have d2 := dd.out.2.2.1
              have d3 := dd.out.2.2.2.1
              have d4 := dd.out.2.2.2.2.1
              have d5 := dd.out.2.2.2.2.2
              have HNY : Hid (nth h y = h[y]) := Lib.hid (nth_eq hyn)
              have HUD : Hid (upO h[y] = decide (UpI h y)) := Lib.hid (by rw [← nth_eq hyn]; rfl)
              have hla := (HS.out.2 _ (List.getElem_mem hyn)).1
              have hls := (HS.out.2 _ (List.getElem_mem hyn)).2.1
              have HN := Lib.hid (And.intro r1 r2)
              rw [HNY.out] at HAU HSV HYS
              clear e2 e3 hcell r1 r2 dd hm4 hm5 hl4 hl5 HNY
              generalize h[y] = o at *
              clear hjl hyn
              have HBX : Hid (Below wr.heap.size wr (wr.alloc (.cells #[.int .i64 (cliO o), .int .i64 (kindO o), .int .i64 (begO o), .int .i64 (endO o), .slice a4 (addO o).length c4, .slice a5 (seeO o).length c5] 36))) := Lib.hid ((Below.refl _ _).alloc (Nat.le_refl _) _)
              have HBK := Lib.hid (Blk.new wr 36 #[.int .i64 (cliO o), .int .i64 (kindO o), .int .i64 (begO o), .int .i64 (endO o), .slice a4 (addO o).length c4, .slice a5 (seeO o).length c5])
              have HUP := Lib.hid (rupdate_any _ o (wr.alloc (.cells #[.int .i64 (cliO o), .int .i64 (kindO o), .int .i64 (begO o), .int .i64 (endO o), .slice a4 (addO o).length c4, .slice a5 (seeO o).length c5] 36)) ⟨_, _, rfl, (HN.out.1.keep KW.out).keep HBX.out, (HN.out.2.keep KW.out).keep HBX.out⟩)
              unfold opV at HUP
              go_wp2_with fail
              refine HUP.out.mono ?_
              rintro e w4 ⟨rfl, hb0⟩
              have hb4 : Below wr.heap.size wr w4 := HBX.out.trans (hb0.mono HBX.out.size)
              have KZ4 := Lib.hid (KZ.out.trans (hb4.mono KZ.out.size))
              have KW4 := Lib.hid (KW2.out.trans (KZ4.out.mono KW2.out.size))
              have HR4 := Lib.hid (below_row HRO.out hb4)
              have HBK4 := Lib.hid (HBK.out.on hb0)
              obtain ⟨c0, c1, c2, c3, c4', c5', hlt6⟩ := blk6 HBK4.out
              rw [HUD.out]
              clear hb0 hb4 HUP HBX HBK HRO KZ KW d0 d1 d2 d3 d4 d5 q0
              by_cases hu : UpI h y
              · have HA2 := Lib.hid (HAU.out hu)
                have HY2 := Lib.hid (HYS.out (fun hr => by have h1 := hr.1; have h2 : kindO (nth h y) = 1 := hu; omega))
                rw [decide_eq_true hu]
                clear hu HYS HSV HAU HAN
                generalize addsK h is j = S at *
                go_wp2_with (at_builtin; refine append_reads2 rfl (.tmp 83) (.tmp 85) rfl w2.heap.size (.slice ra S.length rk) (.slice a4 (addO o).length c4) S.length S (addO o) rfl HR4.out rfl (HN.out.1.keep KW4.out) (by omega) KZ4.out.size ?_)
                intro v6 w6 hown6 hgr6
                have HO6 : Hid (w6.ownsRow w2.heap.size 9 1 v6 (S ++ addO o).length ((S ++ addO o).map vs)) := Lib.hid (by rw [List.length_append, List.map_append]; exact hown6)
                have KZ6 := Lib.hid (KZ4.out.grown hgr6 KZ4.out.size (fun k hk => (HR4.out.lt k hk).1))
                clear hown6 hgr6 c0 c1 c2 c3 c4' c5' hlt6
                go_wp2
                go_roundg (is.length - (j + 1))
                case measure => have := HM.out; omega
                case rel => exact ⟨j + 1, by omega, by go_num, KZ6.out, by rw [HA2.out]; exact HO6.out, HY2.out⟩
              · have hr : RdI h y := HKI.out.resolve_left hu
                have HRD := Lib.hid hr
                have HA2 := Lib.hid (HAN.out hu)
                rw [decide_eq_false hu]
                clear hu hr HAU HAN
                generalize addsK h is j = S at *
                go_wp2_with fail
                refine (rsame_any _ _ (seeO o) S _ (HN.out.2.keep KW4.out) (Reads.of_owns HR4.out) (by omega) (by omega)).mono ?_
                rintro e w6 ⟨rfl, hb6⟩
                have KZ6 := Lib.hid (KZ4.out.trans (hb6.mono KZ4.out.size))
                have KW6 := Lib.hid (KW2.out.trans (KZ6.out.mono KW2.out.size))
                have HR6 := Lib.hid (below_row HR4.out hb6)
                clear hb6 c0 c1 c2 c3 c4' c5' hlt6
                cases hsm : sameS (seeO o) S with
                | true =>
                  have HY2 := Lib.hid (HYS.out (fun _ => same_iff.1 hsm))
                  clear hsm HYS
                  go_wp2
                  go_roundg (is.length - (j + 1))
                  case measure => have := HM.out; omega
                  case rel => exact ⟨j + 1, by omega, by go_num, KZ6.out, by rw [HA2.out]; exact HR6.out, HY2.out⟩
                | false =>
                  have HE : Hid (res = false) := Lib.hid (HNO.out fun hv => by
                    have h1 := same_iff.2 (HSV.out hv HRD.out)
                    rw [hsm] at h1; cases h1)
                  clear hsm HYS
                  go_wp2
                  go_ret
                  exact ⟨ret_bool HE.out.symm, KW6.out⟩
            · have HE : Hid (res = true) := Lib.hid (HYE.out (ver_of HW.out HOK.out (fun i k hi hk hp h0 => Int.not_lt.2 (HPC.out i k hi hk hp h0)) fun j' hj' => HALL.out j' hj' (by omega)))
              go_wp2
              go_ret
              exact ⟨ret_bool HE.out.symm, KW.out⟩
    · have HE : Hid (res = false) := Lib.hid (HNO.out fun hv => hok (plok_of_ver hv))
      clear hok
      go_wp2
      go_ret
      exact ⟨ret_bool HE.out.symm, KW2.out⟩
  · have HE : Hid (res = false) := Lib.hid (HNO.out fun hv => h0 hv.1)
    have e0 := bne_t h0
    clear h0
    go_wp2
    go_ret
    exact ⟨ret_bool HE.out.symm, KW1.out⟩
  end Go.Proofs.Ytjijlhjggpibjaa
