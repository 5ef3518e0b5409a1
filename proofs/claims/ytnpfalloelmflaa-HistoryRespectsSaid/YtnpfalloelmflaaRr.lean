/-
  Chapter 54: the reference's Respects.
-/
import Derived.Test.YtnpfalloelmflaaPl
import Derived.Test.YtnpfalloelmflaaIx
import Derived.Test.YtnpfalloelmflaaRg
namespace Go.Proofs.Ytnpfalloelmflaa
open Go.RowKit

theorem resp_ind {h : List Opn} {order : List Int} (hl : order.length = h.length) (hi : indB h.length order = false) : respB h order = false := resp_perm (by rw [permB_ind hl, hi])
theorem resp_fine {h : List Opn} {order : List Int} (hl : order.length = h.length) (hi : indB h.length order = true) (hr : respP h order) : respB h order = true := resp_ok (by rw [permB_ind hl, hi]) hl hr

set_option maxRecDepth 100000 in
set_option maxHeartbeats 8000000 in
theorem rrespects_any (v u : Value) (h : List Opn) (order : List Int) (W : World) (hr : ReadsO W v h) (ho : Reads vi W u order) (hn : h.length ≤ 1000) : Calls Try.prog 29 #[v, u] W (BoolMade W (respB h order)) := by
  have HR := Lib.hid hr
  have HO := Lib.hid ho
  have HIND := Lib.hid (rindices_any h.length u order W (by omega) ho)
  have HLEN := Lib.hid (fun (hl : ¬ order.length = h.length) => resp_len hl)
  have HRI := Lib.hid (@resp_ind h order)
  have HBAD := Lib.hid (@resp_bad h order)
  have HOK := Lib.hid (@resp_fine h order)
  generalize respB h order = res at *
  obtain ⟨ao, cap, rfl, hl, hm, -, -⟩ := hr
  obtain ⟨ao2, cap2, rfl, hl2, hm2, -, -⟩ := ho
  unfold maxLen at hm hm2
  go_enter Try.func29, Try.ntmps29
  by_cases hle : order.length = h.length
  · have hli : (order.length : Int) = h.length := by omega
    have e1 := bne_f hli
    have HLE := Lib.hid hle
    by_cases hind : indB h.length order = true
    · have HIX : Hid (∀ k (hk : k < order.length), ∃ q : Nat, order[k] = (q : Int) ∧ q < h.length) := Lib.hid fun k hk => by
        have h0 := of_decide_eq_true hind
        have h1 := h0.1 _ (List.getElem_mem hk)
        exact ⟨order[k].toNat, by omega, by omega⟩
      have HIY := Lib.hid hind
      rw [hind] at HIND
      clear hind hli hle
      go_wp2_with fail
      refine HIND.out.mono ?_
      rintro e w1 ⟨rfl, hb1⟩
      have KW1 := Lib.hid hb1
      clear hb1
      go_wp2
      go_loopg [5] order.length (fun m i wr => ∃ k : Nat, m + k = order.length ∧ i = .int .i64 k ∧ (∀ a b (ha : a < order.length) (hb : b < order.length), a < b → a < k → precAt h order[b].toNat order[a].toNat = false) ∧ Below W.heap.size W wr)
      case atStart => exact ⟨0, by omega, rfl, fun a b _ _ _ h0 => by omega, KW1.out⟩
      case round =>
        clear KW1
        obtain ⟨k, hmk, rfl, hall, hbel⟩ := hrel
        have HM := Lib.hid hmk
        have HP := Lib.hid hall
        have KW := Lib.hid hbel
        have hk : k ≤ order.length := by omega
        clear hmk hall hbel
        by_cases hlt : k < order.length
        · have hki : (k : Int) < order.length := by omega
          have hk0 : (0 : Int) ≤ (k : Int) := by omega
          have HLT := Lib.hid (And.intro hlt trivial)
          obtain ⟨b2, off2, c2, hv, hb, hc⟩ := int_at HO.out hlt
          obtain ⟨q, hq1, hq2⟩ := HIX.out k hlt
          injection hv with e2 e3 e4
          subst e2
          have HC : Hid (∀ wq, Below W.heap.size W wq → wq.cell? ⟨b2, off2 + k, none⟩ = some (.int .i64 (q : Int))) := Lib.hid fun wq h1 => (h1.cell (p := ⟨b2, off2 + k, none⟩) hb).trans (by rw [hc, hq1]; rfl)
          obtain ⟨b, off, cap1, a4, c4, a5, c5, hv, _, _, hm4, hm5, hl4, hl5, hcell, r1, r2⟩ := HR.out.at2 hq2
          injection hv with e5 e6 e7
          subst e5
          have hqi : (q : Int) < h.length := by omega
          have hq0 : (0 : Int) ≤ (q : Int) := by omega
          have HX : Hid (h[order[k].toNat]? = some h[q]) := Lib.hid (by rw [hq1, Int.toNat_natCast, List.getElem?_eq_getElem hq2])
          have HN := Lib.hid (And.intro hcell (And.intro r1 r2))
          clear e3 e4 e6 e7 hcell r1 r2 hb hc hq1
          generalize h[q] = x at *
          go_wp2
          obtain ⟨G1, hG1⟩ : ∃ G, G = gk := ⟨_, rfl⟩
          subst hG1
          go_loopg [6] (order.length - (k + 1)) (fun m i wr => ∃ j : Nat, m + j = order.length ∧ i = .int .i64 j ∧ k < j ∧ (∀ b (hb : b < order.length), k < b → b < j → precAt h order[b].toNat order[k].toNat = false) ∧ Below W.heap.size W wr)
          case atStart => exact ⟨k + 1, by omega, by go_num, by omega, fun b _ h0 h1 => by omega, KW.out⟩
          case round =>
            clear KW
            obtain ⟨j, hmj, rfl, hkj, hq, hbel⟩ := hrel
            have HM2 := Lib.hid hmj
            have HQ := Lib.hid hq
            have KW := Lib.hid hbel
            have hj : j ≤ order.length := by omega
            clear hmj hq hbel
            by_cases hjk : j < order.length
            · obtain ⟨b2', off2', c2', hv, hb, hc⟩ := int_at HO.out hjk
              obtain ⟨r, hr1, hr2⟩ := HIX.out j hjk
              injection hv with e2 e3 e4
              injection e2 with e2
              injection e2 with e2 e5
              subst e2 e5
              have HC2 : Hid (∀ wq, Below W.heap.size W wq → wq.cell? ⟨b2, off2 + j, none⟩ = some (.int .i64 (r : Int))) := Lib.hid fun wq h1 => (h1.cell (p := ⟨b2, off2 + j, none⟩) hb).trans (by rw [hc, hr1]; rfl)
              obtain ⟨b', off', cap2', d4, k4, d5, k5, hv, _, _, n4, n5, l4, l5, hcell, s1, s2⟩ := HR.out.at2 hr2
              injection hv with e5 e6 e7
              injection e5 with e5
              injection e5 with e5 e8
              subst e5 e8
              have hji : (j : Int) < order.length := by omega
              have hj0 : (0 : Int) ≤ (j : Int) := by omega
              have hri : (r : Int) < h.length := by omega
              have hr0 : (0 : Int) ≤ (r : Int) := by omega
              have HPE : Hid (precAt h order[j].toNat order[k].toNat = precB h[r] x) := Lib.hid (by unfold precAt; rw [HX.out, hr1, Int.toNat_natCast, List.getElem?_eq_getElem hr2])
              have HN2 := Lib.hid (And.intro hcell (And.intro s1 s2))
              clear e3 e4 e6 e7 hcell s1 s2 hb hc hr1
              generalize h[r] = y at *
              have HSN : Hid (precB y x = false → ∀ b (hb : b < order.length), k < b → b < j + 1 → precAt h order[b].toNat order[k].toNat = false) := Lib.hid fun h1 b hb h2 h3 => by
                rcases Nat.lt_or_ge b j with h4 | h4
                · exact HQ.out b hb h2 h4
                · have : b = j := by omega
                  subst this; rw [HPE.out]; exact h1
              have HBD : Hid (precB y x = true → res = false) := Lib.hid fun h1 => HBAD.out fun h2 => by
                have h3 := h2 k j HLT.out.1 hjk hkj
                rw [HPE.out, h1] at h3; cases h3
              by_cases p1 : precB y x = true
              · have P1 := Lib.hid p1
                clear p1
                go_wp2_with fail
                refine region_left [.is (.slice (some ⟨b, off, none⟩) h.length cap), .is (.slice (some ⟨b2, off2, none⟩) order.length cap2), .is (.int .i64 j), .is (.pointer (some ⟨b2, off2 + j, none⟩)), .is (.int .i64 (r : Int)), .is (.pointer (some ⟨b, off + r * 6, none⟩)), .is (.agg #[.int .i64 (cliO y), .int .i64 (kindO y), .int .i64 (begO y), .int .i64 (endO y), .slice d4 (addO y).length k4, .slice d5 (seeO y).length k5]), .is (.slice (some ⟨b, off, none⟩) h.length cap), .is (.slice (some ⟨b2, off2, none⟩) order.length cap2), .is (.int .i64 k), .is (.pointer (some ⟨b2, off2 + k, none⟩)), .is (.int .i64 (q : Int)), .is (.pointer (some ⟨b, off + q * 6, none⟩)), .is (.agg #[.int .i64 (cliO x), .int .i64 (kindO x), .int .i64 (begO x), .int .i64 (endO x), .slice a4 (addO x).length c4, .slice a5 (seeO x).length c5]), .is (.bool true)] (by kernel_rfl) rfl (by kernel_rfl) (by kernel_rfl) (.cons ?q1_0 (.cons ?q1_1 (.cons ?q1_2 (.cons ?q1_3 (.cons ?q1_4 (.cons ?q1_5 (.cons ?q1_6 (.cons ?q1_7 (.cons ?q1_8 (.cons ?q1_9 (.cons ?q1_10 (.cons ?q1_11 (.cons ?q1_12 (.cons ?q1_13 (.cons ?q1_14 .nil))))))))))))))) ?q1_fin
                case q1_0 =>
                  intro wq hbw st  K hK
                  have KQ := KW.out.trans (hbw.mono KW.out.size)
                  simp only [Act.put, List.setIfInBounds_toArray, List.set_cons_zero, List.set_cons_succ] at hK ⊢
                  unfold opStep
                  rw [if_pos (by rfl)]
                  go_simp
                  exact hK.out _ _ (Below.refl _ _) rfl _ rfl
                case q1_1 =>
                  intro wq hbw st  K hK
                  have KQ := KW.out.trans (hbw.mono KW.out.size)
                  simp only [Act.put, List.setIfInBounds_toArray, List.set_cons_zero, List.set_cons_succ] at hK ⊢
                  unfold opStep
                  rw [if_pos (by rfl)]
                  go_simp
                  exact hK.out _ _ (Below.refl _ _) rfl _ rfl
                case q1_2 =>
                  intro wq hbw st  K hK
                  have KQ := KW.out.trans (hbw.mono KW.out.size)
                  simp only [Act.put, List.setIfInBounds_toArray, List.set_cons_zero, List.set_cons_succ] at hK ⊢
                  unfold opStep
                  rw [if_pos (by rfl)]
                  go_simp
                  exact hK.out _ _ (Below.refl _ _) rfl _ rfl
                case q1_3 =>
                  intro wq hbw st  K hK
                  have KQ := KW.out.trans (hbw.mono KW.out.size)
                  simp only [Act.put, List.setIfInBounds_toArray, List.set_cons_zero, List.set_cons_succ] at hK ⊢
                  unfold opStep
                  rw [if_pos (by rfl)]
                  go_simp
                  exact hK.out _ _ (Below.refl _ _) rfl _ rfl
                case q1_4 =>
                  intro wq hbw st  K hK
                  have KQ := KW.out.trans (hbw.mono KW.out.size)
                  simp only [Act.put, List.setIfInBounds_toArray, List.set_cons_zero, List.set_cons_succ] at hK ⊢
                  unfold opStep
                  rw [if_pos (by rfl)]
                  have hcc := HC2.out wq KQ
                  go_simp
                  exact hK.out _ _ (Below.refl _ _) rfl _ rfl
                case q1_5 =>
                  intro wq hbw st  K hK
                  have KQ := KW.out.trans (hbw.mono KW.out.size)
                  simp only [Act.put, List.setIfInBounds_toArray, List.set_cons_zero, List.set_cons_succ] at hK ⊢
                  unfold opStep
                  rw [if_pos (by rfl)]
                  go_simp
                  exact hK.out _ _ (Below.refl _ _) rfl _ rfl
                case q1_6 =>
                  intro wq hbw st  K hK
                  have KQ := KW.out.trans (hbw.mono KW.out.size)
                  simp only [Act.put, List.setIfInBounds_toArray, List.set_cons_zero, List.set_cons_succ] at hK ⊢
                  unfold opStep
                  rw [if_pos (by rfl)]
                  have dd := Lib.hid (HN2.out.1 wq KQ)
                  have d0 := dd.out.1
                  have d1 := dd.out.2.1
                  have d2 := dd.out.2.2.1
                  have d3 := dd.out.2.2.2.1
                  have d4 := dd.out.2.2.2.2.1
                  have d5 := dd.out.2.2.2.2.2
                  go_simp
                  exact hK.out _ _ (Below.refl _ _) rfl _ rfl
                case q1_7 =>
                  intro wq hbw st  K hK
                  have KQ := KW.out.trans (hbw.mono KW.out.size)
                  simp only [Act.put, List.setIfInBounds_toArray, List.set_cons_zero, List.set_cons_succ] at hK ⊢
                  unfold opStep
                  rw [if_pos (by rfl)]
                  go_simp
                  exact hK.out _ _ (Below.refl _ _) rfl _ rfl
                case q1_8 =>
                  intro wq hbw st  K hK
                  have KQ := KW.out.trans (hbw.mono KW.out.size)
                  simp only [Act.put, List.setIfInBounds_toArray, List.set_cons_zero, List.set_cons_succ] at hK ⊢
                  unfold opStep
                  rw [if_pos (by rfl)]
                  go_simp
                  exact hK.out _ _ (Below.refl _ _) rfl _ rfl
                case q1_9 =>
                  intro wq hbw st  K hK
                  have KQ := KW.out.trans (hbw.mono KW.out.size)
                  simp only [Act.put, List.setIfInBounds_toArray, List.set_cons_zero, List.set_cons_succ] at hK ⊢
                  unfold opStep
                  rw [if_pos (by rfl)]
                  go_simp
                  exact hK.out _ _ (Below.refl _ _) rfl _ rfl
                case q1_10 =>
                  intro wq hbw st  K hK
                  have KQ := KW.out.trans (hbw.mono KW.out.size)
                  simp only [Act.put, List.setIfInBounds_toArray, List.set_cons_zero, List.set_cons_succ] at hK ⊢
                  unfold opStep
                  rw [if_pos (by rfl)]
                  go_simp
                  exact hK.out _ _ (Below.refl _ _) rfl _ rfl
                case q1_11 =>
                  intro wq hbw st  K hK
                  have KQ := KW.out.trans (hbw.mono KW.out.size)
                  simp only [Act.put, List.setIfInBounds_toArray, List.set_cons_zero, List.set_cons_succ] at hK ⊢
                  unfold opStep
                  rw [if_pos (by rfl)]
                  have hcc := HC.out wq KQ
                  go_simp
                  exact hK.out _ _ (Below.refl _ _) rfl _ rfl
                case q1_12 =>
                  intro wq hbw st  K hK
                  have KQ := KW.out.trans (hbw.mono KW.out.size)
                  simp only [Act.put, List.setIfInBounds_toArray, List.set_cons_zero, List.set_cons_succ] at hK ⊢
                  unfold opStep
                  rw [if_pos (by rfl)]
                  go_simp
                  exact hK.out _ _ (Below.refl _ _) rfl _ rfl
                case q1_13 =>
                  intro wq hbw st  K hK
                  have KQ := KW.out.trans (hbw.mono KW.out.size)
                  simp only [Act.put, List.setIfInBounds_toArray, List.set_cons_zero, List.set_cons_succ] at hK ⊢
                  unfold opStep
                  rw [if_pos (by rfl)]
                  have dd := Lib.hid (HN.out.1 wq KQ)
                  have d0 := dd.out.1
                  have d1 := dd.out.2.1
                  have d2 := dd.out.2.2.1
                  have d3 := dd.out.2.2.2.1
                  have d4 := dd.out.2.2.2.2.1
                  have d5 := dd.out.2.2.2.2.2
                  go_simp
                  exact hK.out _ _ (Below.refl _ _) rfl _ rfl
                case q1_14 =>
                  intro wq hbw st  K hK
                  have KQ := KW.out.trans (hbw.mono KW.out.size)
                  simp only [Act.put, List.setIfInBounds_toArray, List.set_cons_zero, List.set_cons_succ] at hK ⊢
                  unfold opStep
                  rw [if_pos (by rfl)]
                  go_simp
                  have hpc := rprec_any _ _ y x wq ⟨_, _, rfl, HN2.out.2.1.keep KQ, HN2.out.2.2.keep KQ⟩ ⟨_, _, rfl, HN.out.2.1.keep KQ, HN.out.2.2.keep KQ⟩
                  rw [P1.out] at hpc
                  refine hpc.mono ?_
                  rintro e wz ⟨rfl, hbz⟩
                  go_simp
                  exact hK.out _ _ hbz rfl _ rfl
                case q1_fin =>
                  intro wq hbw
                  try simp only [FinAll]
                  simp only [Act.put, List.setIfInBounds_toArray, List.set_cons_zero, List.set_cons_succ]
                  replace KW := Lib.hid (KW.out.trans (hbw.mono KW.out.size))
                  clear hbw
                  go_wp2
                  go_ret
                  exact ⟨ret_bool (HBD.out P1.out).symm, KW.out⟩
              · have P1 := Lib.hid (Bool.eq_false_iff.2 p1)
                clear p1
                go_wp2_with fail
                refine region_left [.is (.slice (some ⟨b, off, none⟩) h.length cap), .is (.slice (some ⟨b2, off2, none⟩) order.length cap2), .is (.int .i64 j), .is (.pointer (some ⟨b2, off2 + j, none⟩)), .is (.int .i64 (r : Int)), .is (.pointer (some ⟨b, off + r * 6, none⟩)), .is (.agg #[.int .i64 (cliO y), .int .i64 (kindO y), .int .i64 (begO y), .int .i64 (endO y), .slice d4 (addO y).length k4, .slice d5 (seeO y).length k5]), .is (.slice (some ⟨b, off, none⟩) h.length cap), .is (.slice (some ⟨b2, off2, none⟩) order.length cap2), .is (.int .i64 k), .is (.pointer (some ⟨b2, off2 + k, none⟩)), .is (.int .i64 (q : Int)), .is (.pointer (some ⟨b, off + q * 6, none⟩)), .is (.agg #[.int .i64 (cliO x), .int .i64 (kindO x), .int .i64 (begO x), .int .i64 (endO x), .slice a4 (addO x).length c4, .slice a5 (seeO x).length c5]), .is (.bool false)] (by kernel_rfl) rfl (by kernel_rfl) (by kernel_rfl) (.cons ?q2_0 (.cons ?q2_1 (.cons ?q2_2 (.cons ?q2_3 (.cons ?q2_4 (.cons ?q2_5 (.cons ?q2_6 (.cons ?q2_7 (.cons ?q2_8 (.cons ?q2_9 (.cons ?q2_10 (.cons ?q2_11 (.cons ?q2_12 (.cons ?q2_13 (.cons ?q2_14 .nil))))))))))))))) ?q2_fin
                case q2_0 =>
                  intro wq hbw st  K hK
                  have KQ := KW.out.trans (hbw.mono KW.out.size)
                  simp only [Act.put, List.setIfInBounds_toArray, List.set_cons_zero, List.set_cons_succ] at hK ⊢
                  unfold opStep
                  rw [if_pos (by rfl)]
                  go_simp
                  exact hK.out _ _ (Below.refl _ _) rfl _ rfl
                case q2_1 =>
                  intro wq hbw st  K hK
                  have KQ := KW.out.trans (hbw.mono KW.out.size)
                  simp only [Act.put, List.setIfInBounds_toArray, List.set_cons_zero, List.set_cons_succ] at hK ⊢
                  unfold opStep
                  rw [if_pos (by rfl)]
                  go_simp
                  exact hK.out _ _ (Below.refl _ _) rfl _ rfl
                case q2_2 =>
                  intro wq hbw st  K hK
                  have KQ := KW.out.trans (hbw.mono KW.out.size)
                  simp only [Act.put, List.setIfInBounds_toArray, List.set_cons_zero, List.set_cons_succ] at hK ⊢
                  unfold opStep
                  rw [if_pos (by rfl)]
                  go_simp
                  exact hK.out _ _ (Below.refl _ _) rfl _ rfl
                case q2_3 =>
                  intro wq hbw st  K hK
                  have KQ := KW.out.trans (hbw.mono KW.out.size)
                  simp only [Act.put, List.setIfInBounds_toArray, List.set_cons_zero, List.set_cons_succ] at hK ⊢
                  unfold opStep
                  rw [if_pos (by rfl)]
                  go_simp
                  exact hK.out _ _ (Below.refl _ _) rfl _ rfl
                case q2_4 =>
                  intro wq hbw st  K hK
                  have KQ := KW.out.trans (hbw.mono KW.out.size)
                  simp only [Act.put, List.setIfInBounds_toArray, List.set_cons_zero, List.set_cons_succ] at hK ⊢
                  unfold opStep
                  rw [if_pos (by rfl)]
                  have hcc := HC2.out wq KQ
                  go_simp
                  exact hK.out _ _ (Below.refl _ _) rfl _ rfl
                case q2_5 =>
                  intro wq hbw st  K hK
                  have KQ := KW.out.trans (hbw.mono KW.out.size)
                  simp only [Act.put, List.setIfInBounds_toArray, List.set_cons_zero, List.set_cons_succ] at hK ⊢
                  unfold opStep
                  rw [if_pos (by rfl)]
                  go_simp
                  exact hK.out _ _ (Below.refl _ _) rfl _ rfl
                case q2_6 =>
                  intro wq hbw st  K hK
                  have KQ := KW.out.trans (hbw.mono KW.out.size)
                  simp only [Act.put, List.setIfInBounds_toArray, List.set_cons_zero, List.set_cons_succ] at hK ⊢
                  unfold opStep
                  rw [if_pos (by rfl)]
                  have dd := Lib.hid (HN2.out.1 wq KQ)
                  have d0 := dd.out.1
                  have d1 := dd.out.2.1
                  have d2 := dd.out.2.2.1
                  have d3 := dd.out.2.2.2.1
                  have d4 := dd.out.2.2.2.2.1
                  have d5 := dd.out.2.2.2.2.2
                  go_simp
                  exact hK.out _ _ (Below.refl _ _) rfl _ rfl
                case q2_7 =>
                  intro wq hbw st  K hK
                  have KQ := KW.out.trans (hbw.mono KW.out.size)
                  simp only [Act.put, List.setIfInBounds_toArray, List.set_cons_zero, List.set_cons_succ] at hK ⊢
                  unfold opStep
                  rw [if_pos (by rfl)]
                  go_simp
                  exact hK.out _ _ (Below.refl _ _) rfl _ rfl
                case q2_8 =>
                  intro wq hbw st  K hK
                  have KQ := KW.out.trans (hbw.mono KW.out.size)
                  simp only [Act.put, List.setIfInBounds_toArray, List.set_cons_zero, List.set_cons_succ] at hK ⊢
                  unfold opStep
                  rw [if_pos (by rfl)]
                  go_simp
                  exact hK.out _ _ (Below.refl _ _) rfl _ rfl
                case q2_9 =>
                  intro wq hbw st  K hK
                  have KQ := KW.out.trans (hbw.mono KW.out.size)
                  simp only [Act.put, List.setIfInBounds_toArray, List.set_cons_zero, List.set_cons_succ] at hK ⊢
                  unfold opStep
                  rw [if_pos (by rfl)]
                  go_simp
                  exact hK.out _ _ (Below.refl _ _) rfl _ rfl
                case q2_10 =>
                  intro wq hbw st  K hK
                  have KQ := KW.out.trans (hbw.mono KW.out.size)
                  simp only [Act.put, List.setIfInBounds_toArray, List.set_cons_zero, List.set_cons_succ] at hK ⊢
                  unfold opStep
                  rw [if_pos (by rfl)]
                  go_simp
                  exact hK.out _ _ (Below.refl _ _) rfl _ rfl
                case q2_11 =>
                  intro wq hbw st  K hK
                  have KQ := KW.out.trans (hbw.mono KW.out.size)
                  simp only [Act.put, List.setIfInBounds_toArray, List.set_cons_zero, List.set_cons_succ] at hK ⊢
                  unfold opStep
                  rw [if_pos (by rfl)]
                  have hcc := HC.out wq KQ
                  go_simp
                  exact hK.out _ _ (Below.refl _ _) rfl _ rfl
                case q2_12 =>
                  intro wq hbw st  K hK
                  have KQ := KW.out.trans (hbw.mono KW.out.size)
                  simp only [Act.put, List.setIfInBounds_toArray, List.set_cons_zero, List.set_cons_succ] at hK ⊢
                  unfold opStep
                  rw [if_pos (by rfl)]
                  go_simp
                  exact hK.out _ _ (Below.refl _ _) rfl _ rfl
                case q2_13 =>
                  intro wq hbw st  K hK
                  have KQ := KW.out.trans (hbw.mono KW.out.size)
                  simp only [Act.put, List.setIfInBounds_toArray, List.set_cons_zero, List.set_cons_succ] at hK ⊢
                  unfold opStep
                  rw [if_pos (by rfl)]
                  have dd := Lib.hid (HN.out.1 wq KQ)
                  have d0 := dd.out.1
                  have d1 := dd.out.2.1
                  have d2 := dd.out.2.2.1
                  have d3 := dd.out.2.2.2.1
                  have d4 := dd.out.2.2.2.2.1
                  have d5 := dd.out.2.2.2.2.2
                  go_simp
                  exact hK.out _ _ (Below.refl _ _) rfl _ rfl
                case q2_14 =>
                  intro wq hbw st  K hK
                  have KQ := KW.out.trans (hbw.mono KW.out.size)
                  simp only [Act.put, List.setIfInBounds_toArray, List.set_cons_zero, List.set_cons_succ] at hK ⊢
                  unfold opStep
                  rw [if_pos (by rfl)]
                  go_simp
                  have hpc := rprec_any _ _ y x wq ⟨_, _, rfl, HN2.out.2.1.keep KQ, HN2.out.2.2.keep KQ⟩ ⟨_, _, rfl, HN.out.2.1.keep KQ, HN.out.2.2.keep KQ⟩
                  rw [P1.out] at hpc
                  refine hpc.mono ?_
                  rintro e wz ⟨rfl, hbz⟩
                  go_simp
                  exact hK.out _ _ hbz rfl _ rfl
                case q2_fin =>
                  intro wq hbw
                  try simp only [FinAll]
                  simp only [Act.put, List.setIfInBounds_toArray, List.set_cons_zero, List.set_cons_succ]
                  replace KW := Lib.hid (KW.out.trans (hbw.mono KW.out.size))
                  clear hbw
                  go_wp2
                  go_roundg (order.length - (j + 1))
                  case measure => have := HM2.out; omega
                  case rel => exact ⟨j + 1, by omega, by go_num, by omega, HSN.out P1.out, KW.out⟩
            · have HNX : Hid (∀ a b (ha : a < order.length) (hb : b < order.length), a < b → a < k + 1 → precAt h order[b].toNat order[a].toNat = false) := Lib.hid fun a b ha hb h1 h2 => by
                rcases Nat.lt_or_ge a k with h3 | h3
                · exact HP.out a b ha hb h1 h3
                · have : a = k := by omega
                  subst this; exact HQ.out b hb h1 (by omega)
              go_wp2
              go_roundg (order.length - (k + 1))
              case measure => have := HM.out; omega
              case rel => exact ⟨k + 1, by omega, by go_num, HNX.out, KW.out⟩
        · have HFI : Hid (res = true) := Lib.hid (HOK.out HLE.out HIY.out fun a b ha hb h1 => HP.out a b ha hb h1 (by omega))
          go_wp2
          go_ret
          exact ⟨ret_bool HFI.out.symm, KW.out⟩
    · have HL1 : Hid (res = false) := Lib.hid (HRI.out hle (Bool.eq_false_iff.2 hind))
      rw [Bool.eq_false_iff.2 hind] at HIND
      clear hind hli hle
      go_wp2_with fail
      refine HIND.out.mono ?_
      rintro e w1 ⟨rfl, hb1⟩
      have KW1 := Lib.hid hb1
      clear hb1
      go_wp2
      go_ret
      exact ⟨ret_bool HL1.out.symm, KW1.out⟩
  · have hli : ¬ (order.length : Int) = h.length := by omega
    have e1 := bne_t hli
    have HL1 : Hid (res = false) := Lib.hid (HLEN.out hle)
    clear hle hli
    go_wp2
    go_ret
    exact ⟨ret_bool HL1.out.symm, Below.refl _ _⟩
  end Go.Proofs.Ytnpfalloelmflaa
