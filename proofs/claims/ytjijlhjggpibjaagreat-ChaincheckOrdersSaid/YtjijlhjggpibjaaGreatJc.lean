/-
  The reference's Check and Well of layer 54.
-/
import Derived.Test.YtjijlhjggpibjaaGreatJb
import Derived.Test.YtjijlhjggpibjaaGreatRg
namespace Go.Proofs.YtjijlhjggpibjaaGreat
open Go.RowKit

set_option maxRecDepth 100000 in
set_option maxHeartbeats 8000000 in
theorem rcheck_any (v : Value) (h : List Opn) (W : World) (hr : ReadsO W v h) (hs : SmallH h) : Calls Tryz.prog 31 #[v] W (ChkMade W h) := by
  have HR := Lib.hid hr
  have HS := Lib.hid hs
  have hn := hs.1
  obtain ⟨ao, cap, rfl, hl, hm, -, -⟩ := hr
  unfold maxLen at hm
  clear hs
  go_enter Tryz.func31, Tryz.ntmps31
  go_wp2
  go_loopg [4] h.length (fun m i wr => ∃ k : Nat, m + k = h.length ∧ i = .int .i64 k ∧ (∀ j, j < k → errAt h j = 0) ∧ Below W.heap.size W wr)
  case atStart => exact ⟨0, by omega, rfl, fun j h => by omega, Below.refl _ _⟩
  case round =>
    obtain ⟨k, hmk, rfl, hall, hbel⟩ := hrel
    have HM := Lib.hid hmk
    have HP := Lib.hid hall
    have KW := Lib.hid hbel
    have hk : k ≤ h.length := by omega
    clear hmk hall hbel
    by_cases hlt : k < h.length
    · obtain ⟨b, off, cap1, a4, c4, a5, c5, hv, _, _, hm4, hm5, hl4, hl5, hcell, r1, r2⟩ := HR.out.at2 hlt
      injection hv with e1 e2 e3
      subst e1
      have hki : (k : Int) < h.length := by omega
      have hk0 : (0 : Int) ≤ (k : Int) := by omega
      have HEA := Lib.hid (errAt_zero hlt)
      have HE := Lib.hid (errAt_eq (List.getElem?_eq_getElem hlt))
      have HLT := Lib.hid hlt
      have hla := (HS.out.2 _ (List.getElem_mem hlt)).1
      have HN := Lib.hid (And.intro hcell (And.intro r1 r2))
      clear e2 e3 hcell r1 r2
      generalize hx : h[k] = x at *
      have HX := Lib.hid hx
      clear hx
      have dd := Lib.hid (HN.out.1 wr KW.out)
      have d0 := dd.out.1
      have d1 := dd.out.2.1
      have d2 := dd.out.2.2.1
      have d3 := dd.out.2.2.2.1
      have d4 := dd.out.2.2.2.2.1
      have d5 := dd.out.2.2.2.2.2
      have HFC := Lib.hid (rform_any _ x wr ⟨_, _, rfl, HN.out.2.1.keep KW.out, HN.out.2.2.keep KW.out⟩)
      go_wp2_with fail
      refine HFC.out.mono ?_
      rintro e w1 ⟨rfl, hb1⟩
      replace KW := Lib.hid (KW.out.trans (hb1.mono KW.out.size))
      clear hb1 HFC d0 d1 d2 d3 d4 d5 dd
      by_cases hform : formB x = true
      · have HF := Lib.hid hform
        have HE2 : Hid (errAt h k = if ∃ y ∈ h.take k, cliO y = cliO x ∧ precB y x = false then 9 else if ∃ s ∈ addO x, s ∈ addedL h k then 3 else 0) := Lib.hid (by rw [HE.out, if_neg (by rw [hform]; simp)])
        rw [hform]
        clear hform HE
        go_wp2
        obtain ⟨G1, hG1⟩ : ∃ G, G = gk := ⟨_, rfl⟩
        subst hG1
        go_loopg [5] k (fun m i wr => ∃ j : Nat, m + j = k ∧ i = .int .i64 j ∧ (∀ y ∈ h.take j, ¬ (cliO y = cliO x ∧ precB y x = false)) ∧ Below W.heap.size W wr)
        case atStart => exact ⟨0, by omega, rfl, by simp, KW.out⟩
        case round =>
          clear KW
          obtain ⟨j, hmj, rfl, hq, hbel⟩ := hrel
          have HM2 := Lib.hid hmj
          have HQ := Lib.hid hq
          have KW := Lib.hid hbel
          have hj : j ≤ k := by omega
          clear hmj hq hbel
          by_cases hjk : j < k
          · have hjh : j < h.length := by omega
            obtain ⟨b', off', cap2, d4, k4, d5, k5, hv, _, _, n4, n5, l4, l5, hcell, s1, s2⟩ := HR.out.at2 hjh
            injection hv with e1 e2 e3
            injection e1 with e1
            injection e1 with e1 e4
            subst e1 e4
            have hji : (j : Int) < k := by omega
            have hjn : (j : Int) < h.length := by omega
            have hj0 : (0 : Int) ≤ (j : Int) := by omega
            have HSN : Hid (¬ (cliO h[j] = cliO x ∧ precB h[j] x = false) → ∀ y ∈ h.take (j + 1), ¬ (cliO y = cliO x ∧ precB y x = false)) := Lib.hid fun h1 y hy => by
              rw [List.take_succ_eq_append_getElem hjh] at hy
              rcases List.mem_append.1 hy with h2 | h2
              · exact HQ.out y h2
              · rw [List.mem_singleton.1 h2]; exact h1
            have HBAD : Hid ((cliO h[j] = cliO x ∧ precB h[j] x = false) → ∃ y ∈ h.take k, cliO y = cliO x ∧ precB y x = false) := Lib.hid fun h1 => ⟨h[j], List.mem_take_iff_getElem.2 ⟨j, by omega, rfl⟩, h1⟩
            have HN2 := Lib.hid (And.intro hcell (And.intro s1 s2))
            clear e2 e3 hcell s1 s2
            generalize h[j] = y at *
            go_wp2_with fail
            by_cases hc : cliO y = cliO x
            · have ec := beq_t hc
              have HC := Lib.hid hc
              clear hc
              by_cases p1 : precB y x = true
              · have P1 := Lib.hid p1
                clear p1
                refine region_left [.is (.slice (some ⟨b, off, none⟩) h.length cap), .is (.int .i64 j), .is (.pointer (some ⟨b, off + j * 6, none⟩)), .is (.pointer (some ⟨b, off + j * 6, none⟩)), .is (.int .i64 (cliO y)), .is (.slice (some ⟨b, off, none⟩) h.length cap), .is (.int .i64 k), .is (.pointer (some ⟨b, off + k * 6, none⟩)), .is (.pointer (some ⟨b, off + k * 6, none⟩)), .is (.int .i64 (cliO x)), .is (.bool true), .is (.bool true), .is (.slice (some ⟨b, off, none⟩) h.length cap), .is (.int .i64 j), .is (.pointer (some ⟨b, off + j * 6, none⟩)), .is (.agg #[.int .i64 (cliO y), .int .i64 (kindO y), .int .i64 (begO y), .int .i64 (endO y), .slice d4 (addO y).length k4, .slice d5 (seeO y).length k5]), .is (.slice (some ⟨b, off, none⟩) h.length cap), .is (.int .i64 k), .is (.pointer (some ⟨b, off + k * 6, none⟩)), .is (.agg #[.int .i64 (cliO x), .int .i64 (kindO x), .int .i64 (begO x), .int .i64 (endO x), .slice a4 (addO x).length c4, .slice a5 (seeO x).length c5]), .is (.bool true), .is (.bool false), .is (.bool false)] (by kernel_rfl) rfl (by kernel_rfl) (by kernel_rfl) (.cons ?q1_0 (.cons ?q1_1 (.cons ?q1_2 (.cons ?q1_3 (.cons ?q1_4 (.cons ?q1_5 (.cons ?q1_6 (.cons ?q1_7 (.cons ?q1_8 (.cons ?q1_9 (.cons ?q1_10 (.cons ?q1_11 (.cons ?q1_12 (.cons ?q1_13 (.cons ?q1_14 (.cons ?q1_15 (.cons ?q1_16 (.cons ?q1_17 (.cons ?q1_18 (.cons ?q1_19 (.cons ?q1_20 (.cons ?q1_21 (.cons ?q1_22 .nil))))))))))))))))))))))) ?q1_fin
                case q1_0 =>
                  intro wq hbw st  K hK
                  have KQ := KW.out.trans (hbw.mono KW.out.size)
                  simp only [Act.put, List.setIfInBounds_toArray, List.set_cons_zero, List.set_cons_succ] at hK ⊢
                  unfold opStep
                  rw [if_pos (by rfl)]
                  go_simp
                  exact hK.out _ _ (Below.refl _ _) rfl _ rfl
                case q1_1 =>
                  intro wq hbw st  K hK
                  have KQ := KW.out.trans (hbw.mono KW.out.size)
                  simp only [Act.put, List.setIfInBounds_toArray, List.set_cons_zero, List.set_cons_succ] at hK ⊢
                  unfold opStep
                  rw [if_pos (by rfl)]
                  go_simp
                  exact hK.out _ _ (Below.refl _ _) rfl _ rfl
                case q1_2 =>
                  intro wq hbw st  K hK
                  have KQ := KW.out.trans (hbw.mono KW.out.size)
                  simp only [Act.put, List.setIfInBounds_toArray, List.set_cons_zero, List.set_cons_succ] at hK ⊢
                  unfold opStep
                  rw [if_pos (by rfl)]
                  go_simp
                  exact hK.out _ _ (Below.refl _ _) rfl _ rfl
                case q1_3 =>
                  intro wq hbw st  K hK
                  have KQ := KW.out.trans (hbw.mono KW.out.size)
                  simp only [Act.put, List.setIfInBounds_toArray, List.set_cons_zero, List.set_cons_succ] at hK ⊢
                  unfold opStep
                  rw [if_pos (by rfl)]
                  go_simp
                  exact hK.out _ _ (Below.refl _ _) rfl _ rfl
                case q1_4 =>
                  intro wq hbw st  K hK
                  have KQ := KW.out.trans (hbw.mono KW.out.size)
                  simp only [Act.put, List.setIfInBounds_toArray, List.set_cons_zero, List.set_cons_succ] at hK ⊢
                  unfold opStep
                  rw [if_pos (by rfl)]
                  have dd := Lib.hid (HN2.out.1 wq KQ)
                  have d0 := dd.out.1
                  have d1 := dd.out.2.1
                  have d2 := dd.out.2.2.1
                  have d3 := dd.out.2.2.2.1
                  have d4 := dd.out.2.2.2.2.1
                  have d5 := dd.out.2.2.2.2.2
                  go_simp
                  exact hK.out _ _ (Below.refl _ _) rfl _ rfl
                case q1_5 =>
                  intro wq hbw st  K hK
                  have KQ := KW.out.trans (hbw.mono KW.out.size)
                  simp only [Act.put, List.setIfInBounds_toArray, List.set_cons_zero, List.set_cons_succ] at hK ⊢
                  unfold opStep
                  rw [if_pos (by rfl)]
                  go_simp
                  exact hK.out _ _ (Below.refl _ _) rfl _ rfl
                case q1_6 =>
                  intro wq hbw st  K hK
                  have KQ := KW.out.trans (hbw.mono KW.out.size)
                  simp only [Act.put, List.setIfInBounds_toArray, List.set_cons_zero, List.set_cons_succ] at hK ⊢
                  unfold opStep
                  rw [if_pos (by rfl)]
                  go_simp
                  exact hK.out _ _ (Below.refl _ _) rfl _ rfl
                case q1_7 =>
                  intro wq hbw st  K hK
                  have KQ := KW.out.trans (hbw.mono KW.out.size)
                  simp only [Act.put, List.setIfInBounds_toArray, List.set_cons_zero, List.set_cons_succ] at hK ⊢
                  unfold opStep
                  rw [if_pos (by rfl)]
                  go_simp
                  exact hK.out _ _ (Below.refl _ _) rfl _ rfl
                case q1_8 =>
                  intro wq hbw st  K hK
                  have KQ := KW.out.trans (hbw.mono KW.out.size)
                  simp only [Act.put, List.setIfInBounds_toArray, List.set_cons_zero, List.set_cons_succ] at hK ⊢
                  unfold opStep
                  rw [if_pos (by rfl)]
                  go_simp
                  exact hK.out _ _ (Below.refl _ _) rfl _ rfl
                case q1_9 =>
                  intro wq hbw st  K hK
                  have KQ := KW.out.trans (hbw.mono KW.out.size)
                  simp only [Act.put, List.setIfInBounds_toArray, List.set_cons_zero, List.set_cons_succ] at hK ⊢
                  unfold opStep
                  rw [if_pos (by rfl)]
                  have dd := Lib.hid (HN.out.1 wq KQ)
                  have d0 := dd.out.1
                  have d1 := dd.out.2.1
                  have d2 := dd.out.2.2.1
                  have d3 := dd.out.2.2.2.1
                  have d4 := dd.out.2.2.2.2.1
                  have d5 := dd.out.2.2.2.2.2
                  go_simp
                  exact hK.out _ _ (Below.refl _ _) rfl _ rfl
                case q1_10 =>
                  intro wq hbw st  K hK
                  have KQ := KW.out.trans (hbw.mono KW.out.size)
                  simp only [Act.put, List.setIfInBounds_toArray, List.set_cons_zero, List.set_cons_succ] at hK ⊢
                  unfold opStep
                  rw [if_pos (by rfl)]
                  go_simp
                  exact hK.out _ _ (Below.refl _ _) rfl _ rfl
                case q1_11 =>
                  intro wq hbw st  K hK
                  have KQ := KW.out.trans (hbw.mono KW.out.size)
                  simp only [Act.put, List.setIfInBounds_toArray, List.set_cons_zero, List.set_cons_succ] at hK ⊢
                  unfold opStep
                  rw [if_pos (by rfl)]
                  go_simp
                  exact hK.out _ _ (Below.refl _ _) rfl _ rfl
                case q1_12 =>
                  intro wq hbw st  K hK
                  have KQ := KW.out.trans (hbw.mono KW.out.size)
                  simp only [Act.put, List.setIfInBounds_toArray, List.set_cons_zero, List.set_cons_succ] at hK ⊢
                  unfold opStep
                  rw [if_pos (by rfl)]
                  go_simp
                  exact hK.out _ _ (Below.refl _ _) rfl _ rfl
                case q1_13 =>
                  intro wq hbw st  K hK
                  have KQ := KW.out.trans (hbw.mono KW.out.size)
                  simp only [Act.put, List.setIfInBounds_toArray, List.set_cons_zero, List.set_cons_succ] at hK ⊢
                  unfold opStep
                  rw [if_pos (by rfl)]
                  go_simp
                  exact hK.out _ _ (Below.refl _ _) rfl _ rfl
                case q1_14 =>
                  intro wq hbw st  K hK
                  have KQ := KW.out.trans (hbw.mono KW.out.size)
                  simp only [Act.put, List.setIfInBounds_toArray, List.set_cons_zero, List.set_cons_succ] at hK ⊢
                  unfold opStep
                  rw [if_pos (by rfl)]
                  go_simp
                  exact hK.out _ _ (Below.refl _ _) rfl _ rfl
                case q1_15 =>
                  intro wq hbw st  K hK
                  have KQ := KW.out.trans (hbw.mono KW.out.size)
                  simp only [Act.put, List.setIfInBounds_toArray, List.set_cons_zero, List.set_cons_succ] at hK ⊢
                  unfold opStep
                  rw [if_pos (by rfl)]
                  have dd := Lib.hid (HN2.out.1 wq KQ)
                  have d0 := dd.out.1
                  have d1 := dd.out.2.1
                  have d2 := dd.out.2.2.1
                  have d3 := dd.out.2.2.2.1
                  have d4 := dd.out.2.2.2.2.1
                  have d5 := dd.out.2.2.2.2.2
                  go_simp
                  exact hK.out _ _ (Below.refl _ _) rfl _ rfl
                case q1_16 =>
                  intro wq hbw st  K hK
                  have KQ := KW.out.trans (hbw.mono KW.out.size)
                  simp only [Act.put, List.setIfInBounds_toArray, List.set_cons_zero, List.set_cons_succ] at hK ⊢
                  unfold opStep
                  rw [if_pos (by rfl)]
                  go_simp
                  exact hK.out _ _ (Below.refl _ _) rfl _ rfl
                case q1_17 =>
                  intro wq hbw st  K hK
                  have KQ := KW.out.trans (hbw.mono KW.out.size)
                  simp only [Act.put, List.setIfInBounds_toArray, List.set_cons_zero, List.set_cons_succ] at hK ⊢
                  unfold opStep
                  rw [if_pos (by rfl)]
                  go_simp
                  exact hK.out _ _ (Below.refl _ _) rfl _ rfl
                case q1_18 =>
                  intro wq hbw st  K hK
                  have KQ := KW.out.trans (hbw.mono KW.out.size)
                  simp only [Act.put, List.setIfInBounds_toArray, List.set_cons_zero, List.set_cons_succ] at hK ⊢
                  unfold opStep
                  rw [if_pos (by rfl)]
                  go_simp
                  exact hK.out _ _ (Below.refl _ _) rfl _ rfl
                case q1_19 =>
                  intro wq hbw st  K hK
                  have KQ := KW.out.trans (hbw.mono KW.out.size)
                  simp only [Act.put, List.setIfInBounds_toArray, List.set_cons_zero, List.set_cons_succ] at hK ⊢
                  unfold opStep
                  rw [if_pos (by rfl)]
                  have dd := Lib.hid (HN.out.1 wq KQ)
                  have d0 := dd.out.1
                  have d1 := dd.out.2.1
                  have d2 := dd.out.2.2.1
                  have d3 := dd.out.2.2.2.1
                  have d4 := dd.out.2.2.2.2.1
                  have d5 := dd.out.2.2.2.2.2
                  go_simp
                  exact hK.out _ _ (Below.refl _ _) rfl _ rfl
                case q1_20 =>
                  intro wq hbw st  K hK
                  have KQ := KW.out.trans (hbw.mono KW.out.size)
                  simp only [Act.put, List.setIfInBounds_toArray, List.set_cons_zero, List.set_cons_succ] at hK ⊢
                  unfold opStep
                  rw [if_pos (by rfl)]
                  go_simp
                  have hpc := rprec_any _ _ y x wq ⟨_, _, rfl, HN2.out.2.1.keep KQ, HN2.out.2.2.keep KQ⟩ ⟨_, _, rfl, HN.out.2.1.keep KQ, HN.out.2.2.keep KQ⟩
                  rw [P1.out] at hpc
                  refine hpc.mono ?_
                  rintro e wz ⟨rfl, hbz⟩
                  go_simp
                  exact hK.out _ _ hbz rfl _ rfl
                case q1_21 =>
                  intro wq hbw st  K hK
                  have KQ := KW.out.trans (hbw.mono KW.out.size)
                  simp only [Act.put, List.setIfInBounds_toArray, List.set_cons_zero, List.set_cons_succ] at hK ⊢
                  unfold opStep
                  rw [if_pos (by rfl)]
                  go_simp
                  exact hK.out _ _ (Below.refl _ _) rfl _ rfl
                case q1_22 =>
                  intro wq hbw st  K hK
                  have KQ := KW.out.trans (hbw.mono KW.out.size)
                  simp only [Act.put, List.setIfInBounds_toArray, List.set_cons_zero, List.set_cons_succ] at hK ⊢
                  unfold opStep
                  rw [if_pos (by rfl)]
                  go_simp
                  exact hK.out _ _ (Below.refl _ _) rfl _ rfl
                case q1_fin =>
                  intro wq hbw
                  try simp only [FinAll]
                  simp only [Act.put, List.setIfInBounds_toArray, List.set_cons_zero, List.set_cons_succ]
                  replace KW := Lib.hid (KW.out.trans (hbw.mono KW.out.size))
                  clear hbw
                  go_wp2
                  go_roundg (k - (j + 1))
                  case measure => have := HM2.out; omega
                  case rel => exact ⟨j + 1, by omega, by go_num, HSN.out (fun h => by have h2 := h.2; rw [P1.out] at h2; cases h2), KW.out⟩
              · have P1 := Lib.hid (Bool.eq_false_iff.2 p1)
                clear p1
                refine region_left [.is (.slice (some ⟨b, off, none⟩) h.length cap), .is (.int .i64 j), .is (.pointer (some ⟨b, off + j * 6, none⟩)), .is (.pointer (some ⟨b, off + j * 6, none⟩)), .is (.int .i64 (cliO y)), .is (.slice (some ⟨b, off, none⟩) h.length cap), .is (.int .i64 k), .is (.pointer (some ⟨b, off + k * 6, none⟩)), .is (.pointer (some ⟨b, off + k * 6, none⟩)), .is (.int .i64 (cliO x)), .is (.bool true), .is (.bool true), .is (.slice (some ⟨b, off, none⟩) h.length cap), .is (.int .i64 j), .is (.pointer (some ⟨b, off + j * 6, none⟩)), .is (.agg #[.int .i64 (cliO y), .int .i64 (kindO y), .int .i64 (begO y), .int .i64 (endO y), .slice d4 (addO y).length k4, .slice d5 (seeO y).length k5]), .is (.slice (some ⟨b, off, none⟩) h.length cap), .is (.int .i64 k), .is (.pointer (some ⟨b, off + k * 6, none⟩)), .is (.agg #[.int .i64 (cliO x), .int .i64 (kindO x), .int .i64 (begO x), .int .i64 (endO x), .slice a4 (addO x).length c4, .slice a5 (seeO x).length c5]), .is (.bool false), .is (.bool true), .is (.bool true)] (by kernel_rfl) rfl (by kernel_rfl) (by kernel_rfl) (.cons ?q2_0 (.cons ?q2_1 (.cons ?q2_2 (.cons ?q2_3 (.cons ?q2_4 (.cons ?q2_5 (.cons ?q2_6 (.cons ?q2_7 (.cons ?q2_8 (.cons ?q2_9 (.cons ?q2_10 (.cons ?q2_11 (.cons ?q2_12 (.cons ?q2_13 (.cons ?q2_14 (.cons ?q2_15 (.cons ?q2_16 (.cons ?q2_17 (.cons ?q2_18 (.cons ?q2_19 (.cons ?q2_20 (.cons ?q2_21 (.cons ?q2_22 .nil))))))))))))))))))))))) ?q2_fin
                case q2_0 =>
                  intro wq hbw st  K hK
                  have KQ := KW.out.trans (hbw.mono KW.out.size)
                  simp only [Act.put, List.setIfInBounds_toArray, List.set_cons_zero, List.set_cons_succ] at hK ⊢
                  unfold opStep
                  rw [if_pos (by rfl)]
                  go_simp
                  exact hK.out _ _ (Below.refl _ _) rfl _ rfl
                case q2_1 =>
                  intro wq hbw st  K hK
                  have KQ := KW.out.trans (hbw.mono KW.out.size)
                  simp only [Act.put, List.setIfInBounds_toArray, List.set_cons_zero, List.set_cons_succ] at hK ⊢
                  unfold opStep
                  rw [if_pos (by rfl)]
                  go_simp
                  exact hK.out _ _ (Below.refl _ _) rfl _ rfl
                case q2_2 =>
                  intro wq hbw st  K hK
                  have KQ := KW.out.trans (hbw.mono KW.out.size)
                  simp only [Act.put, List.setIfInBounds_toArray, List.set_cons_zero, List.set_cons_succ] at hK ⊢
                  unfold opStep
                  rw [if_pos (by rfl)]
                  go_simp
                  exact hK.out _ _ (Below.refl _ _) rfl _ rfl
                case q2_3 =>
                  intro wq hbw st  K hK
                  have KQ := KW.out.trans (hbw.mono KW.out.size)
                  simp only [Act.put, List.setIfInBounds_toArray, List.set_cons_zero, List.set_cons_succ] at hK ⊢
                  unfold opStep
                  rw [if_pos (by rfl)]
                  go_simp
                  exact hK.out _ _ (Below.refl _ _) rfl _ rfl
                case q2_4 =>
                  intro wq hbw st  K hK
                  have KQ := KW.out.trans (hbw.mono KW.out.size)
                  simp only [Act.put, List.setIfInBounds_toArray, List.set_cons_zero, List.set_cons_succ] at hK ⊢
                  unfold opStep
                  rw [if_pos (by rfl)]
                  have dd := Lib.hid (HN2.out.1 wq KQ)
                  have d0 := dd.out.1
                  have d1 := dd.out.2.1
                  have d2 := dd.out.2.2.1
                  have d3 := dd.out.2.2.2.1
                  have d4 := dd.out.2.2.2.2.1
                  have d5 := dd.out.2.2.2.2.2
                  go_simp
                  exact hK.out _ _ (Below.refl _ _) rfl _ rfl
                case q2_5 =>
                  intro wq hbw st  K hK
                  have KQ := KW.out.trans (hbw.mono KW.out.size)
                  simp only [Act.put, List.setIfInBounds_toArray, List.set_cons_zero, List.set_cons_succ] at hK ⊢
                  unfold opStep
                  rw [if_pos (by rfl)]
                  go_simp
                  exact hK.out _ _ (Below.refl _ _) rfl _ rfl
                case q2_6 =>
                  intro wq hbw st  K hK
                  have KQ := KW.out.trans (hbw.mono KW.out.size)
                  simp only [Act.put, List.setIfInBounds_toArray, List.set_cons_zero, List.set_cons_succ] at hK ⊢
                  unfold opStep
                  rw [if_pos (by rfl)]
                  go_simp
                  exact hK.out _ _ (Below.refl _ _) rfl _ rfl
                case q2_7 =>
                  intro wq hbw st  K hK
                  have KQ := KW.out.trans (hbw.mono KW.out.size)
                  simp only [Act.put, List.setIfInBounds_toArray, List.set_cons_zero, List.set_cons_succ] at hK ⊢
                  unfold opStep
                  rw [if_pos (by rfl)]
                  go_simp
                  exact hK.out _ _ (Below.refl _ _) rfl _ rfl
                case q2_8 =>
                  intro wq hbw st  K hK
                  have KQ := KW.out.trans (hbw.mono KW.out.size)
                  simp only [Act.put, List.setIfInBounds_toArray, List.set_cons_zero, List.set_cons_succ] at hK ⊢
                  unfold opStep
                  rw [if_pos (by rfl)]
                  go_simp
                  exact hK.out _ _ (Below.refl _ _) rfl _ rfl
                case q2_9 =>
                  intro wq hbw st  K hK
                  have KQ := KW.out.trans (hbw.mono KW.out.size)
                  simp only [Act.put, List.setIfInBounds_toArray, List.set_cons_zero, List.set_cons_succ] at hK ⊢
                  unfold opStep
                  rw [if_pos (by rfl)]
                  have dd := Lib.hid (HN.out.1 wq KQ)
                  have d0 := dd.out.1
                  have d1 := dd.out.2.1
                  have d2 := dd.out.2.2.1
                  have d3 := dd.out.2.2.2.1
                  have d4 := dd.out.2.2.2.2.1
                  have d5 := dd.out.2.2.2.2.2
                  go_simp
                  exact hK.out _ _ (Below.refl _ _) rfl _ rfl
                case q2_10 =>
                  intro wq hbw st  K hK
                  have KQ := KW.out.trans (hbw.mono KW.out.size)
                  simp only [Act.put, List.setIfInBounds_toArray, List.set_cons_zero, List.set_cons_succ] at hK ⊢
                  unfold opStep
                  rw [if_pos (by rfl)]
                  go_simp
                  exact hK.out _ _ (Below.refl _ _) rfl _ rfl
                case q2_11 =>
                  intro wq hbw st  K hK
                  have KQ := KW.out.trans (hbw.mono KW.out.size)
                  simp only [Act.put, List.setIfInBounds_toArray, List.set_cons_zero, List.set_cons_succ] at hK ⊢
                  unfold opStep
                  rw [if_pos (by rfl)]
                  go_simp
                  exact hK.out _ _ (Below.refl _ _) rfl _ rfl
                case q2_12 =>
                  intro wq hbw st  K hK
                  have KQ := KW.out.trans (hbw.mono KW.out.size)
                  simp only [Act.put, List.setIfInBounds_toArray, List.set_cons_zero, List.set_cons_succ] at hK ⊢
                  unfold opStep
                  rw [if_pos (by rfl)]
                  go_simp
                  exact hK.out _ _ (Below.refl _ _) rfl _ rfl
                case q2_13 =>
                  intro wq hbw st  K hK
                  have KQ := KW.out.trans (hbw.mono KW.out.size)
                  simp only [Act.put, List.setIfInBounds_toArray, List.set_cons_zero, List.set_cons_succ] at hK ⊢
                  unfold opStep
                  rw [if_pos (by rfl)]
                  go_simp
                  exact hK.out _ _ (Below.refl _ _) rfl _ rfl
                case q2_14 =>
                  intro wq hbw st  K hK
                  have KQ := KW.out.trans (hbw.mono KW.out.size)
                  simp only [Act.put, List.setIfInBounds_toArray, List.set_cons_zero, List.set_cons_succ] at hK ⊢
                  unfold opStep
                  rw [if_pos (by rfl)]
                  go_simp
                  exact hK.out _ _ (Below.refl _ _) rfl _ rfl
                case q2_15 =>
                  intro wq hbw st  K hK
                  have KQ := KW.out.trans (hbw.mono KW.out.size)
                  simp only [Act.put, List.setIfInBounds_toArray, List.set_cons_zero, List.set_cons_succ] at hK ⊢
                  unfold opStep
                  rw [if_pos (by rfl)]
                  have dd := Lib.hid (HN2.out.1 wq KQ)
                  have d0 := dd.out.1
                  have d1 := dd.out.2.1
                  have d2 := dd.out.2.2.1
                  have d3 := dd.out.2.2.2.1
                  have d4 := dd.out.2.2.2.2.1
                  have d5 := dd.out.2.2.2.2.2
                  go_simp
                  exact hK.out _ _ (Below.refl _ _) rfl _ rfl
                case q2_16 =>
                  intro wq hbw st  K hK
                  have KQ := KW.out.trans (hbw.mono KW.out.size)
                  simp only [Act.put, List.setIfInBounds_toArray, List.set_cons_zero, List.set_cons_succ] at hK ⊢
                  unfold opStep
                  rw [if_pos (by rfl)]
                  go_simp
                  exact hK.out _ _ (Below.refl _ _) rfl _ rfl
                case q2_17 =>
                  intro wq hbw st  K hK
                  have KQ := KW.out.trans (hbw.mono KW.out.size)
                  simp only [Act.put, List.setIfInBounds_toArray, List.set_cons_zero, List.set_cons_succ] at hK ⊢
                  unfold opStep
                  rw [if_pos (by rfl)]
                  go_simp
                  exact hK.out _ _ (Below.refl _ _) rfl _ rfl
                case q2_18 =>
                  intro wq hbw st  K hK
                  have KQ := KW.out.trans (hbw.mono KW.out.size)
                  simp only [Act.put, List.setIfInBounds_toArray, List.set_cons_zero, List.set_cons_succ] at hK ⊢
                  unfold opStep
                  rw [if_pos (by rfl)]
                  go_simp
                  exact hK.out _ _ (Below.refl _ _) rfl _ rfl
                case q2_19 =>
                  intro wq hbw st  K hK
                  have KQ := KW.out.trans (hbw.mono KW.out.size)
                  simp only [Act.put, List.setIfInBounds_toArray, List.set_cons_zero, List.set_cons_succ] at hK ⊢
                  unfold opStep
                  rw [if_pos (by rfl)]
                  have dd := Lib.hid (HN.out.1 wq KQ)
                  have d0 := dd.out.1
                  have d1 := dd.out.2.1
                  have d2 := dd.out.2.2.1
                  have d3 := dd.out.2.2.2.1
                  have d4 := dd.out.2.2.2.2.1
                  have d5 := dd.out.2.2.2.2.2
                  go_simp
                  exact hK.out _ _ (Below.refl _ _) rfl _ rfl
                case q2_20 =>
                  intro wq hbw st  K hK
                  have KQ := KW.out.trans (hbw.mono KW.out.size)
                  simp only [Act.put, List.setIfInBounds_toArray, List.set_cons_zero, List.set_cons_succ] at hK ⊢
                  unfold opStep
                  rw [if_pos (by rfl)]
                  go_simp
                  have hpc := rprec_any _ _ y x wq ⟨_, _, rfl, HN2.out.2.1.keep KQ, HN2.out.2.2.keep KQ⟩ ⟨_, _, rfl, HN.out.2.1.keep KQ, HN.out.2.2.keep KQ⟩
                  rw [P1.out] at hpc
                  refine hpc.mono ?_
                  rintro e wz ⟨rfl, hbz⟩
                  go_simp
                  exact hK.out _ _ hbz rfl _ rfl
                case q2_21 =>
                  intro wq hbw st  K hK
                  have KQ := KW.out.trans (hbw.mono KW.out.size)
                  simp only [Act.put, List.setIfInBounds_toArray, List.set_cons_zero, List.set_cons_succ] at hK ⊢
                  unfold opStep
                  rw [if_pos (by rfl)]
                  go_simp
                  exact hK.out _ _ (Below.refl _ _) rfl _ rfl
                case q2_22 =>
                  intro wq hbw st  K hK
                  have KQ := KW.out.trans (hbw.mono KW.out.size)
                  simp only [Act.put, List.setIfInBounds_toArray, List.set_cons_zero, List.set_cons_succ] at hK ⊢
                  unfold opStep
                  rw [if_pos (by rfl)]
                  go_simp
                  exact hK.out _ _ (Below.refl _ _) rfl _ rfl
                case q2_fin =>
                  intro wq hbw
                  try simp only [FinAll]
                  simp only [Act.put, List.setIfInBounds_toArray, List.set_cons_zero, List.set_cons_succ]
                  replace KW := Lib.hid (KW.out.trans (hbw.mono KW.out.size))
                  clear hbw
                  have HER : Hid (errAt h k = 9) := Lib.hid (by rw [HE2.out, if_pos (HBAD.out ⟨HC.out, P1.out⟩)])
                  go_wp2
                  go_ret2
                  exact chk_err HLT.out HP.out HER.out (by decide) KW.out
            · have ec := beq_f hc
              have HC := Lib.hid hc
              clear hc
              refine region_left [.is (.slice (some ⟨b, off, none⟩) h.length cap), .is (.int .i64 j), .is (.pointer (some ⟨b, off + j * 6, none⟩)), .is (.pointer (some ⟨b, off + j * 6, none⟩)), .is (.int .i64 (cliO y)), .is (.slice (some ⟨b, off, none⟩) h.length cap), .is (.int .i64 k), .is (.pointer (some ⟨b, off + k * 6, none⟩)), .is (.pointer (some ⟨b, off + k * 6, none⟩)), .is (.int .i64 (cliO x)), .is (.bool false), .is (.bool false), .is undef, .is undef, .is undef, .is undef, .is undef, .is undef, .is undef, .is undef, .is undef, .is undef, .is (.bool false)] (by kernel_rfl) rfl (by kernel_rfl) (by kernel_rfl) (.cons ?q3_0 (.cons ?q3_1 (.cons ?q3_2 (.cons ?q3_3 (.cons ?q3_4 (.cons ?q3_5 (.cons ?q3_6 (.cons ?q3_7 (.cons ?q3_8 (.cons ?q3_9 (.cons ?q3_10 (.cons ?q3_11 (.cons ?q3_12 (.cons ?q3_13 (.cons ?q3_14 (.cons ?q3_15 (.cons ?q3_16 (.cons ?q3_17 (.cons ?q3_18 (.cons ?q3_19 (.cons ?q3_20 (.cons ?q3_21 (.cons ?q3_22 .nil))))))))))))))))))))))) ?q3_fin
              case q3_0 =>
                intro wq hbw st  K hK
                have KQ := KW.out.trans (hbw.mono KW.out.size)
                simp only [Act.put, List.setIfInBounds_toArray, List.set_cons_zero, List.set_cons_succ] at hK ⊢
                unfold opStep
                rw [if_pos (by rfl)]
                go_simp
                exact hK.out _ _ (Below.refl _ _) rfl _ rfl
              case q3_1 =>
                intro wq hbw st  K hK
                have KQ := KW.out.trans (hbw.mono KW.out.size)
                simp only [Act.put, List.setIfInBounds_toArray, List.set_cons_zero, List.set_cons_succ] at hK ⊢
                unfold opStep
                rw [if_pos (by rfl)]
                go_simp
                exact hK.out _ _ (Below.refl _ _) rfl _ rfl
              case q3_2 =>
                intro wq hbw st  K hK
                have KQ := KW.out.trans (hbw.mono KW.out.size)
                simp only [Act.put, List.setIfInBounds_toArray, List.set_cons_zero, List.set_cons_succ] at hK ⊢
                unfold opStep
                rw [if_pos (by rfl)]
                go_simp
                exact hK.out _ _ (Below.refl _ _) rfl _ rfl
              case q3_3 =>
                intro wq hbw st  K hK
                have KQ := KW.out.trans (hbw.mono KW.out.size)
                simp only [Act.put, List.setIfInBounds_toArray, List.set_cons_zero, List.set_cons_succ] at hK ⊢
                unfold opStep
                rw [if_pos (by rfl)]
                go_simp
                exact hK.out _ _ (Below.refl _ _) rfl _ rfl
              case q3_4 =>
                intro wq hbw st  K hK
                have KQ := KW.out.trans (hbw.mono KW.out.size)
                simp only [Act.put, List.setIfInBounds_toArray, List.set_cons_zero, List.set_cons_succ] at hK ⊢
                unfold opStep
                rw [if_pos (by rfl)]
                have dd := Lib.hid (HN2.out.1 wq KQ)
                have d0 := dd.out.1
                have d1 := dd.out.2.1
                have d2 := dd.out.2.2.1
                have d3 := dd.out.2.2.2.1
                have d4 := dd.out.2.2.2.2.1
                have d5 := dd.out.2.2.2.2.2
                go_simp
                exact hK.out _ _ (Below.refl _ _) rfl _ rfl
              case q3_5 =>
                intro wq hbw st  K hK
                have KQ := KW.out.trans (hbw.mono KW.out.size)
                simp only [Act.put, List.setIfInBounds_toArray, List.set_cons_zero, List.set_cons_succ] at hK ⊢
                unfold opStep
                rw [if_pos (by rfl)]
                go_simp
                exact hK.out _ _ (Below.refl _ _) rfl _ rfl
              case q3_6 =>
                intro wq hbw st  K hK
                have KQ := KW.out.trans (hbw.mono KW.out.size)
                simp only [Act.put, List.setIfInBounds_toArray, List.set_cons_zero, List.set_cons_succ] at hK ⊢
                unfold opStep
                rw [if_pos (by rfl)]
                go_simp
                exact hK.out _ _ (Below.refl _ _) rfl _ rfl
              case q3_7 =>
                intro wq hbw st  K hK
                have KQ := KW.out.trans (hbw.mono KW.out.size)
                simp only [Act.put, List.setIfInBounds_toArray, List.set_cons_zero, List.set_cons_succ] at hK ⊢
                unfold opStep
                rw [if_pos (by rfl)]
                go_simp
                exact hK.out _ _ (Below.refl _ _) rfl _ rfl
              case q3_8 =>
                intro wq hbw st  K hK
                have KQ := KW.out.trans (hbw.mono KW.out.size)
                simp only [Act.put, List.setIfInBounds_toArray, List.set_cons_zero, List.set_cons_succ] at hK ⊢
                unfold opStep
                rw [if_pos (by rfl)]
                go_simp
                exact hK.out _ _ (Below.refl _ _) rfl _ rfl
              case q3_9 =>
                intro wq hbw st  K hK
                have KQ := KW.out.trans (hbw.mono KW.out.size)
                simp only [Act.put, List.setIfInBounds_toArray, List.set_cons_zero, List.set_cons_succ] at hK ⊢
                unfold opStep
                rw [if_pos (by rfl)]
                have dd := Lib.hid (HN.out.1 wq KQ)
                have d0 := dd.out.1
                have d1 := dd.out.2.1
                have d2 := dd.out.2.2.1
                have d3 := dd.out.2.2.2.1
                have d4 := dd.out.2.2.2.2.1
                have d5 := dd.out.2.2.2.2.2
                go_simp
                exact hK.out _ _ (Below.refl _ _) rfl _ rfl
              case q3_10 =>
                intro wq hbw st  K hK
                have KQ := KW.out.trans (hbw.mono KW.out.size)
                simp only [Act.put, List.setIfInBounds_toArray, List.set_cons_zero, List.set_cons_succ] at hK ⊢
                unfold opStep
                rw [if_pos (by rfl)]
                go_simp
                exact hK.out _ _ (Below.refl _ _) rfl _ rfl
              case q3_11 =>
                intro wq hbw st  K hK
                have KQ := KW.out.trans (hbw.mono KW.out.size)
                simp only [Act.put, List.setIfInBounds_toArray, List.set_cons_zero, List.set_cons_succ] at hK ⊢
                unfold opStep
                rw [if_pos (by rfl)]
                go_simp
                exact hK.out _ _ (Below.refl _ _) rfl _ rfl
              case q3_12 =>
                intro wq hbw st  K hK
                have KQ := KW.out.trans (hbw.mono KW.out.size)
                simp only [Act.put, List.setIfInBounds_toArray, List.set_cons_zero, List.set_cons_succ] at hK ⊢
                unfold opStep
                rw [if_neg (by change ¬ (false = true); exact Bool.false_ne_true)]
                exact hK.out _ _ (Below.refl _ _) rfl _ rfl
              case q3_13 =>
                intro wq hbw st  K hK
                have KQ := KW.out.trans (hbw.mono KW.out.size)
                simp only [Act.put, List.setIfInBounds_toArray, List.set_cons_zero, List.set_cons_succ] at hK ⊢
                unfold opStep
                rw [if_neg (by change ¬ (false = true); exact Bool.false_ne_true)]
                exact hK.out _ _ (Below.refl _ _) rfl _ rfl
              case q3_14 =>
                intro wq hbw st  K hK
                have KQ := KW.out.trans (hbw.mono KW.out.size)
                simp only [Act.put, List.setIfInBounds_toArray, List.set_cons_zero, List.set_cons_succ] at hK ⊢
                unfold opStep
                rw [if_neg (by change ¬ (false = true); exact Bool.false_ne_true)]
                exact hK.out _ _ (Below.refl _ _) rfl _ rfl
              case q3_15 =>
                intro wq hbw st  K hK
                have KQ := KW.out.trans (hbw.mono KW.out.size)
                simp only [Act.put, List.setIfInBounds_toArray, List.set_cons_zero, List.set_cons_succ] at hK ⊢
                unfold opStep
                rw [if_neg (by change ¬ (false = true); exact Bool.false_ne_true)]
                exact hK.out _ _ (Below.refl _ _) rfl _ rfl
              case q3_16 =>
                intro wq hbw st  K hK
                have KQ := KW.out.trans (hbw.mono KW.out.size)
                simp only [Act.put, List.setIfInBounds_toArray, List.set_cons_zero, List.set_cons_succ] at hK ⊢
                unfold opStep
                rw [if_neg (by change ¬ (false = true); exact Bool.false_ne_true)]
                exact hK.out _ _ (Below.refl _ _) rfl _ rfl
              case q3_17 =>
                intro wq hbw st  K hK
                have KQ := KW.out.trans (hbw.mono KW.out.size)
                simp only [Act.put, List.setIfInBounds_toArray, List.set_cons_zero, List.set_cons_succ] at hK ⊢
                unfold opStep
                rw [if_neg (by change ¬ (false = true); exact Bool.false_ne_true)]
                exact hK.out _ _ (Below.refl _ _) rfl _ rfl
              case q3_18 =>
                intro wq hbw st  K hK
                have KQ := KW.out.trans (hbw.mono KW.out.size)
                simp only [Act.put, List.setIfInBounds_toArray, List.set_cons_zero, List.set_cons_succ] at hK ⊢
                unfold opStep
                rw [if_neg (by change ¬ (false = true); exact Bool.false_ne_true)]
                exact hK.out _ _ (Below.refl _ _) rfl _ rfl
              case q3_19 =>
                intro wq hbw st  K hK
                have KQ := KW.out.trans (hbw.mono KW.out.size)
                simp only [Act.put, List.setIfInBounds_toArray, List.set_cons_zero, List.set_cons_succ] at hK ⊢
                unfold opStep
                rw [if_neg (by change ¬ (false = true); exact Bool.false_ne_true)]
                exact hK.out _ _ (Below.refl _ _) rfl _ rfl
              case q3_20 =>
                intro wq hbw st  K hK
                have KQ := KW.out.trans (hbw.mono KW.out.size)
                simp only [Act.put, List.setIfInBounds_toArray, List.set_cons_zero, List.set_cons_succ] at hK ⊢
                unfold opStep
                rw [if_neg (by change ¬ (false = true); exact Bool.false_ne_true)]
                exact hK.out _ _ (Below.refl _ _) rfl _ rfl
              case q3_21 =>
                intro wq hbw st  K hK
                have KQ := KW.out.trans (hbw.mono KW.out.size)
                simp only [Act.put, List.setIfInBounds_toArray, List.set_cons_zero, List.set_cons_succ] at hK ⊢
                unfold opStep
                rw [if_neg (by change ¬ (false = true); exact Bool.false_ne_true)]
                exact hK.out _ _ (Below.refl _ _) rfl _ rfl
              case q3_22 =>
                intro wq hbw st  K hK
                have KQ := KW.out.trans (hbw.mono KW.out.size)
                simp only [Act.put, List.setIfInBounds_toArray, List.set_cons_zero, List.set_cons_succ] at hK ⊢
                unfold opStep
                rw [if_pos (by rfl)]
                go_simp
                exact hK.out _ _ (Below.refl _ _) rfl _ rfl
              case q3_fin =>
                intro wq hbw
                try simp only [FinAll]
                simp only [Act.put, List.setIfInBounds_toArray, List.set_cons_zero, List.set_cons_succ]
                replace KW := Lib.hid (KW.out.trans (hbw.mono KW.out.size))
                clear hbw
                go_wp2
                go_roundg (k - (j + 1))
                case measure => have := HM2.out; omega
                case rel => exact ⟨j + 1, by omega, by go_num, HSN.out (fun h => HC.out h.1), KW.out⟩
          · have hjj : j = k := by omega
            subst hjj
            have HE3 : Hid (errAt h j = if ∃ s ∈ addO x, s ∈ addedL h j then 3 else 0) := Lib.hid (by rw [HE2.out, if_neg (fun ⟨y, hy, h1⟩ => HQ.out y hy h1)])
            clear HE2 HQ
            go_wp2
            obtain ⟨G2, hG2⟩ : ∃ G, G = gk := ⟨_, rfl⟩
            subst hG2
            go_loopg [6] j (fun m i wr => ∃ q : Nat, m + q = j ∧ i = .int .i64 q ∧ (∀ y ∈ h.take q, ¬ ∃ s ∈ addO y, s ∈ addO x) ∧ Below W.heap.size W wr)
            case atStart => exact ⟨0, by omega, rfl, by simp, KW.out⟩
            case round =>
              clear KW
              obtain ⟨q, hmq, rfl, hq, hbel⟩ := hrel
              have HM3 := Lib.hid hmq
              have HQ := Lib.hid hq
              have KW := Lib.hid hbel
              have hqj : q ≤ j := by omega
              clear hmq hq hbel
              by_cases hqk : q < j
              · have hqh : q < h.length := by omega
                obtain ⟨b', off', cap2, d4, k4, d5, k5, hv, _, _, n4, n5, l4, l5, hcell, s1, s2⟩ := HR.out.at2 hqh
                injection hv with e1 e2 e3
                injection e1 with e1
                injection e1 with e1 e4
                subst e1 e4
                have hqi : (q : Int) < j := by omega
                have hqn : (q : Int) < h.length := by omega
                have hq0 : (0 : Int) ≤ (q : Int) := by omega
                have hly := (HS.out.2 _ (List.getElem_mem hqh)).1
                have HSN : Hid ((¬ ∃ s ∈ addO h[q], s ∈ addO x) → ∀ y ∈ h.take (q + 1), ¬ ∃ s ∈ addO y, s ∈ addO x) := Lib.hid fun h1 y hy => by
                  rw [List.take_succ_eq_append_getElem hqh] at hy
                  rcases List.mem_append.1 hy with h2 | h2
                  · exact HQ.out y h2
                  · rw [List.mem_singleton.1 h2]; exact h1
                have HBAD : Hid ((∃ s ∈ addO h[q], s ∈ addO x) → ∃ s ∈ addO x, s ∈ addedL h j) := Lib.hid fun ⟨s, h1, h2⟩ => ⟨s, h2, List.mem_flatMap.2 ⟨h[q], List.mem_take_iff_getElem.2 ⟨q, by omega, rfl⟩, h1⟩⟩
                have HN2 := Lib.hid (And.intro hcell (And.intro s1 s2))
                clear e2 e3 hcell s1 s2
                generalize h[q] = y at *
                go_wp2_with fail
                by_cases hin : ∃ s ∈ addO y, s ∈ addO x
                · have hlen : (0 : Int) < ((interL (addO y) (addO x)).length : Nat) := by have := List.length_pos_iff.2 ((inter_ne (addO y) (addO x)).2 hin); omega
                  have hlenN : 0 < (interL (addO y) (addO x)).length := by omega
                  have HIN := Lib.hid hin
                  clear hin
                  refine region_left [.is (.slice (some ⟨b, off, none⟩) h.length cap), .is (.int .i64 q), .is (.pointer (some ⟨b, off + q * 6, none⟩)), .is (.pointer (some ⟨b, off + q * 6 + 4, none⟩)), .is (.slice d4 (addO y).length k4), .is (.slice (some ⟨b, off, none⟩) h.length cap), .is (.int .i64 j), .is (.pointer (some ⟨b, off + j * 6, none⟩)), .is (.pointer (some ⟨b, off + j * 6 + 4, none⟩)), .is (.slice a4 (addO x).length c4), .has (fun z w => Reads vs w z (interL (addO y) (addO x))) (fun _ _ _ hb h => h.keep hb), .is (.int .i64 ((interL (addO y) (addO x)).length : Nat)), .is (.bool true)] (by kernel_rfl) rfl (by kernel_rfl) (by kernel_rfl) (.cons ?z4_0 (.cons ?z4_1 (.cons ?z4_2 (.cons ?z4_3 (.cons ?z4_4 (.cons ?z4_5 (.cons ?z4_6 (.cons ?z4_7 (.cons ?z4_8 (.cons ?z4_9 (.cons ?z4_10 (.cons ?z4_11 (.cons ?z4_12 .nil))))))))))))) ?z4_fin
                  case z4_0 =>
                    intro wq hbw st  K hK
                    have KQ := KW.out.trans (hbw.mono KW.out.size)
                    simp only [Act.put, List.setIfInBounds_toArray, List.set_cons_zero, List.set_cons_succ] at hK ⊢
                    unfold opStep
                    rw [if_pos (by rfl)]
                    go_simp
                    exact hK.out _ _ (Below.refl _ _) rfl _ rfl
                  case z4_1 =>
                    intro wq hbw st  K hK
                    have KQ := KW.out.trans (hbw.mono KW.out.size)
                    simp only [Act.put, List.setIfInBounds_toArray, List.set_cons_zero, List.set_cons_succ] at hK ⊢
                    unfold opStep
                    rw [if_pos (by rfl)]
                    go_simp
                    exact hK.out _ _ (Below.refl _ _) rfl _ rfl
                  case z4_2 =>
                    intro wq hbw st  K hK
                    have KQ := KW.out.trans (hbw.mono KW.out.size)
                    simp only [Act.put, List.setIfInBounds_toArray, List.set_cons_zero, List.set_cons_succ] at hK ⊢
                    unfold opStep
                    rw [if_pos (by rfl)]
                    go_simp
                    exact hK.out _ _ (Below.refl _ _) rfl _ rfl
                  case z4_3 =>
                    intro wq hbw st  K hK
                    have KQ := KW.out.trans (hbw.mono KW.out.size)
                    simp only [Act.put, List.setIfInBounds_toArray, List.set_cons_zero, List.set_cons_succ] at hK ⊢
                    unfold opStep
                    rw [if_pos (by rfl)]
                    go_simp
                    exact hK.out _ _ (Below.refl _ _) rfl _ rfl
                  case z4_4 =>
                    intro wq hbw st  K hK
                    have KQ := KW.out.trans (hbw.mono KW.out.size)
                    simp only [Act.put, List.setIfInBounds_toArray, List.set_cons_zero, List.set_cons_succ] at hK ⊢
                    unfold opStep
                    rw [if_pos (by rfl)]
                    have dd := Lib.hid (HN2.out.1 wq KQ)
                    have d0 := dd.out.1
                    have d1 := dd.out.2.1
                    have d2 := dd.out.2.2.1
                    have d3 := dd.out.2.2.2.1
                    have d4 := dd.out.2.2.2.2.1
                    have d5 := dd.out.2.2.2.2.2
                    go_simp
                    exact hK.out _ _ (Below.refl _ _) rfl _ rfl
                  case z4_5 =>
                    intro wq hbw st  K hK
                    have KQ := KW.out.trans (hbw.mono KW.out.size)
                    simp only [Act.put, List.setIfInBounds_toArray, List.set_cons_zero, List.set_cons_succ] at hK ⊢
                    unfold opStep
                    rw [if_pos (by rfl)]
                    go_simp
                    exact hK.out _ _ (Below.refl _ _) rfl _ rfl
                  case z4_6 =>
                    intro wq hbw st  K hK
                    have KQ := KW.out.trans (hbw.mono KW.out.size)
                    simp only [Act.put, List.setIfInBounds_toArray, List.set_cons_zero, List.set_cons_succ] at hK ⊢
                    unfold opStep
                    rw [if_pos (by rfl)]
                    go_simp
                    exact hK.out _ _ (Below.refl _ _) rfl _ rfl
                  case z4_7 =>
                    intro wq hbw st  K hK
                    have KQ := KW.out.trans (hbw.mono KW.out.size)
                    simp only [Act.put, List.setIfInBounds_toArray, List.set_cons_zero, List.set_cons_succ] at hK ⊢
                    unfold opStep
                    rw [if_pos (by rfl)]
                    go_simp
                    exact hK.out _ _ (Below.refl _ _) rfl _ rfl
                  case z4_8 =>
                    intro wq hbw st  K hK
                    have KQ := KW.out.trans (hbw.mono KW.out.size)
                    simp only [Act.put, List.setIfInBounds_toArray, List.set_cons_zero, List.set_cons_succ] at hK ⊢
                    unfold opStep
                    rw [if_pos (by rfl)]
                    go_simp
                    exact hK.out _ _ (Below.refl _ _) rfl _ rfl
                  case z4_9 =>
                    intro wq hbw st  K hK
                    have KQ := KW.out.trans (hbw.mono KW.out.size)
                    simp only [Act.put, List.setIfInBounds_toArray, List.set_cons_zero, List.set_cons_succ] at hK ⊢
                    unfold opStep
                    rw [if_pos (by rfl)]
                    have dd := Lib.hid (HN.out.1 wq KQ)
                    have d0 := dd.out.1
                    have d1 := dd.out.2.1
                    have d2 := dd.out.2.2.1
                    have d3 := dd.out.2.2.2.1
                    have d4 := dd.out.2.2.2.2.1
                    have d5 := dd.out.2.2.2.2.2
                    go_simp
                    exact hK.out _ _ (Below.refl _ _) rfl _ rfl
                  case z4_10 =>
                    intro wq hbw st  K hK
                    have KQ := KW.out.trans (hbw.mono KW.out.size)
                    simp only [Act.put, List.setIfInBounds_toArray, List.set_cons_zero, List.set_cons_succ] at hK ⊢
                    unfold opStep
                    rw [if_pos (by rfl)]
                    go_simp
                    refine (inter_any _ _ (addO y) (addO x) wq (HN2.out.2.1.keep KQ) (HN.out.2.1.keep KQ) (by omega)).mono ?_
                    rintro e wz ⟨z, rfl, hrz, hbz⟩
                    go_simp
                    exact hK.out _ _ hbz hrz _ rfl
                  case z4_11 =>
                    intro wq hbw st x10 h10 K hK
                    have KQ := KW.out.trans (hbw.mono KW.out.size)
                    simp only [Act.put, List.setIfInBounds_toArray, List.set_cons_zero, List.set_cons_succ] at hK ⊢
                    unfold opStep
                    rw [if_pos (by rfl)]
                    obtain ⟨ao, cz, rfl, _, _, _, _⟩ := h10
                    go_simp
                    exact hK.out _ _ (Below.refl _ _) rfl _ rfl
                  case z4_12 =>
                    intro wq hbw st  K hK
                    have KQ := KW.out.trans (hbw.mono KW.out.size)
                    simp only [Act.put, List.setIfInBounds_toArray, List.set_cons_zero, List.set_cons_succ] at hK ⊢
                    unfold opStep
                    rw [if_pos (by rfl)]
                    go_simp
                    exact hK.out _ _ (Below.refl _ _) rfl _ rfl
                  case z4_fin =>
                    intro wq hbw
                    intro x10 h10
                    try simp only [FinAll]
                    simp only [Act.put, List.setIfInBounds_toArray, List.set_cons_zero, List.set_cons_succ]
                    replace KW := Lib.hid (KW.out.trans (hbw.mono KW.out.size))
                    clear hbw
                    clear h10
                    have HER : Hid (errAt h j = 3) := Lib.hid (by rw [HE3.out, if_pos (HBAD.out HIN.out)])
                    go_wp2
                    go_ret2
                    exact chk_err HLT.out HP.out HER.out (by decide) KW.out
                · have hlen : ¬ (0 : Int) < ((interL (addO y) (addO x)).length : Nat) := by
                    have : interL (addO y) (addO x) = [] := Classical.byContradiction fun h1 => hin ((inter_ne _ _).1 h1)
                    rw [this]; decide
                  have hlenN : ¬ 0 < (interL (addO y) (addO x)).length := by omega
                  have HIN := Lib.hid hin
                  clear hin
                  refine region_left [.is (.slice (some ⟨b, off, none⟩) h.length cap), .is (.int .i64 q), .is (.pointer (some ⟨b, off + q * 6, none⟩)), .is (.pointer (some ⟨b, off + q * 6 + 4, none⟩)), .is (.slice d4 (addO y).length k4), .is (.slice (some ⟨b, off, none⟩) h.length cap), .is (.int .i64 j), .is (.pointer (some ⟨b, off + j * 6, none⟩)), .is (.pointer (some ⟨b, off + j * 6 + 4, none⟩)), .is (.slice a4 (addO x).length c4), .has (fun z w => Reads vs w z (interL (addO y) (addO x))) (fun _ _ _ hb h => h.keep hb), .is (.int .i64 ((interL (addO y) (addO x)).length : Nat)), .is (.bool false)] (by kernel_rfl) rfl (by kernel_rfl) (by kernel_rfl) (.cons ?z5_0 (.cons ?z5_1 (.cons ?z5_2 (.cons ?z5_3 (.cons ?z5_4 (.cons ?z5_5 (.cons ?z5_6 (.cons ?z5_7 (.cons ?z5_8 (.cons ?z5_9 (.cons ?z5_10 (.cons ?z5_11 (.cons ?z5_12 .nil))))))))))))) ?z5_fin
                  case z5_0 =>
                    intro wq hbw st  K hK
                    have KQ := KW.out.trans (hbw.mono KW.out.size)
                    simp only [Act.put, List.setIfInBounds_toArray, List.set_cons_zero, List.set_cons_succ] at hK ⊢
                    unfold opStep
                    rw [if_pos (by rfl)]
                    go_simp
                    exact hK.out _ _ (Below.refl _ _) rfl _ rfl
                  case z5_1 =>
                    intro wq hbw st  K hK
                    have KQ := KW.out.trans (hbw.mono KW.out.size)
                    simp only [Act.put, List.setIfInBounds_toArray, List.set_cons_zero, List.set_cons_succ] at hK ⊢
                    unfold opStep
                    rw [if_pos (by rfl)]
                    go_simp
                    exact hK.out _ _ (Below.refl _ _) rfl _ rfl
                  case z5_2 =>
                    intro wq hbw st  K hK
                    have KQ := KW.out.trans (hbw.mono KW.out.size)
                    simp only [Act.put, List.setIfInBounds_toArray, List.set_cons_zero, List.set_cons_succ] at hK ⊢
                    unfold opStep
                    rw [if_pos (by rfl)]
                    go_simp
                    exact hK.out _ _ (Below.refl _ _) rfl _ rfl
                  case z5_3 =>
                    intro wq hbw st  K hK
                    have KQ := KW.out.trans (hbw.mono KW.out.size)
                    simp only [Act.put, List.setIfInBounds_toArray, List.set_cons_zero, List.set_cons_succ] at hK ⊢
                    unfold opStep
                    rw [if_pos (by rfl)]
                    go_simp
                    exact hK.out _ _ (Below.refl _ _) rfl _ rfl
                  case z5_4 =>
                    intro wq hbw st  K hK
                    have KQ := KW.out.trans (hbw.mono KW.out.size)
                    simp only [Act.put, List.setIfInBounds_toArray, List.set_cons_zero, List.set_cons_succ] at hK ⊢
                    unfold opStep
                    rw [if_pos (by rfl)]
                    have dd := Lib.hid (HN2.out.1 wq KQ)
                    have d0 := dd.out.1
                    have d1 := dd.out.2.1
                    have d2 := dd.out.2.2.1
                    have d3 := dd.out.2.2.2.1
                    have d4 := dd.out.2.2.2.2.1
                    have d5 := dd.out.2.2.2.2.2
                    go_simp
                    exact hK.out _ _ (Below.refl _ _) rfl _ rfl
                  case z5_5 =>
                    intro wq hbw st  K hK
                    have KQ := KW.out.trans (hbw.mono KW.out.size)
                    simp only [Act.put, List.setIfInBounds_toArray, List.set_cons_zero, List.set_cons_succ] at hK ⊢
                    unfold opStep
                    rw [if_pos (by rfl)]
                    go_simp
                    exact hK.out _ _ (Below.refl _ _) rfl _ rfl
                  case z5_6 =>
                    intro wq hbw st  K hK
                    have KQ := KW.out.trans (hbw.mono KW.out.size)
                    simp only [Act.put, List.setIfInBounds_toArray, List.set_cons_zero, List.set_cons_succ] at hK ⊢
                    unfold opStep
                    rw [if_pos (by rfl)]
                    go_simp
                    exact hK.out _ _ (Below.refl _ _) rfl _ rfl
                  case z5_7 =>
                    intro wq hbw st  K hK
                    have KQ := KW.out.trans (hbw.mono KW.out.size)
                    simp only [Act.put, List.setIfInBounds_toArray, List.set_cons_zero, List.set_cons_succ] at hK ⊢
                    unfold opStep
                    rw [if_pos (by rfl)]
                    go_simp
                    exact hK.out _ _ (Below.refl _ _) rfl _ rfl
                  case z5_8 =>
                    intro wq hbw st  K hK
                    have KQ := KW.out.trans (hbw.mono KW.out.size)
                    simp only [Act.put, List.setIfInBounds_toArray, List.set_cons_zero, List.set_cons_succ] at hK ⊢
                    unfold opStep
                    rw [if_pos (by rfl)]
                    go_simp
                    exact hK.out _ _ (Below.refl _ _) rfl _ rfl
                  case z5_9 =>
                    intro wq hbw st  K hK
                    have KQ := KW.out.trans (hbw.mono KW.out.size)
                    simp only [Act.put, List.setIfInBounds_toArray, List.set_cons_zero, List.set_cons_succ] at hK ⊢
                    unfold opStep
                    rw [if_pos (by rfl)]
                    have dd := Lib.hid (HN.out.1 wq KQ)
                    have d0 := dd.out.1
                    have d1 := dd.out.2.1
                    have d2 := dd.out.2.2.1
                    have d3 := dd.out.2.2.2.1
                    have d4 := dd.out.2.2.2.2.1
                    have d5 := dd.out.2.2.2.2.2
                    go_simp
                    exact hK.out _ _ (Below.refl _ _) rfl _ rfl
                  case z5_10 =>
                    intro wq hbw st  K hK
                    have KQ := KW.out.trans (hbw.mono KW.out.size)
                    simp only [Act.put, List.setIfInBounds_toArray, List.set_cons_zero, List.set_cons_succ] at hK ⊢
                    unfold opStep
                    rw [if_pos (by rfl)]
                    go_simp
                    refine (inter_any _ _ (addO y) (addO x) wq (HN2.out.2.1.keep KQ) (HN.out.2.1.keep KQ) (by omega)).mono ?_
                    rintro e wz ⟨z, rfl, hrz, hbz⟩
                    go_simp
                    exact hK.out _ _ hbz hrz _ rfl
                  case z5_11 =>
                    intro wq hbw st x10 h10 K hK
                    have KQ := KW.out.trans (hbw.mono KW.out.size)
                    simp only [Act.put, List.setIfInBounds_toArray, List.set_cons_zero, List.set_cons_succ] at hK ⊢
                    unfold opStep
                    rw [if_pos (by rfl)]
                    obtain ⟨ao, cz, rfl, _, _, _, _⟩ := h10
                    go_simp
                    exact hK.out _ _ (Below.refl _ _) rfl _ rfl
                  case z5_12 =>
                    intro wq hbw st  K hK
                    have KQ := KW.out.trans (hbw.mono KW.out.size)
                    simp only [Act.put, List.setIfInBounds_toArray, List.set_cons_zero, List.set_cons_succ] at hK ⊢
                    unfold opStep
                    rw [if_pos (by rfl)]
                    go_simp
                    exact hK.out _ _ (Below.refl _ _) rfl _ rfl
                  case z5_fin =>
                    intro wq hbw
                    intro x10 h10
                    try simp only [FinAll]
                    simp only [Act.put, List.setIfInBounds_toArray, List.set_cons_zero, List.set_cons_succ]
                    replace KW := Lib.hid (KW.out.trans (hbw.mono KW.out.size))
                    clear hbw
                    clear h10
                    go_wp2
                    go_roundg (j - (q + 1))
                    case measure => have := HM3.out; omega
                    case rel => exact ⟨q + 1, by omega, by go_num, HSN.out HIN.out, KW.out⟩
              · have hqq : q = j := by omega
                subst hqq
                have HER : Hid (errAt h q = 0) := Lib.hid (by
                  rw [HE3.out, if_neg]
                  rintro ⟨s, hs, h1⟩
                  obtain ⟨y, hy, h2⟩ := List.mem_flatMap.1 h1
                  exact HQ.out y hy ⟨s, h2, hs⟩)
                have HPN : Hid (∀ i, i < q + 1 → errAt h i = 0) := Lib.hid (fun i hi => by
                  rcases Nat.lt_or_ge i q with h1 | h1
                  · exact HP.out i h1
                  · have : i = q := by omega
                    subst this; exact HER.out)
                clear HE3
                go_wp2
                go_roundg (h.length - (q + 1))
                case measure => have := HM.out; omega
                case rel => exact ⟨q + 1, by omega, by go_num, HPN.out, KW.out⟩
      · have HER : Hid (errAt h k = 1) := Lib.hid (by rw [HE.out, if_pos (Bool.eq_false_iff.2 hform)])
        rw [Bool.eq_false_iff.2 hform]
        clear hform HE
        go_wp2
        go_ret2
        exact chk_err HLT.out HP.out HER.out (by decide) KW.out
    · have HALL : Hid (∀ j, j < h.length → errAt h j = 0) := Lib.hid fun j hj => HP.out j (by omega)
      go_wp2
      go_ret2
      exact chk_fine HALL.out KW.out
noncomputable def wellB (h : List Opn) : Bool := decide ((chkL h).2 = 0)
theorem well_yes {h : List Opn} (hw : Well h) : wellB h = true := decide_eq_true (chk_well.2 hw)
theorem well_of {h : List Opn} (hw : wellB h = true) : Well h := chk_well.1 (of_decide_eq_true hw)
end Go.Proofs.YtjijlhjggpibjaaGreat
