/-
  Chapter 56: next of the reference.
-/
import Derived.Test.YtgaolgfjbgflgaaLo
namespace Go.Proofs.Ytgaolgfjbgflgaa
open Go.RowKit

theorem state_len {h : List Opn} (hs : SmallH h) : ∀ l : List Nat, (∀ z ∈ l, z < h.length) → (stateL h l).length ≤ 1000 * l.length := by
  refine stateL_ind (fun _ => by simp [stateL]) fun l x ih hl => ?_
  have h1 := ih fun z hz => hl z (by simp [hz])
  have h2 := ofL_length (stateL h l ++ addO (nth h x))
  have h3 := (hs.2 _ (nth_mem (hl x (by simp)))).1
  rw [stateL_snoc, List.length_append, List.length_singleton]
  rw [List.length_append] at h2
  omega
def aftP (h : List Opn) (l : List Nat) (x k : Nat) : Prop := ∀ y, y < k → prI h y x = true → y ∈ l

set_option maxRecDepth 100000 in
set_option maxHeartbeats 8000000 in
theorem rnext_any (v u : Value) (h : List Opn) (l : List Nat) (x : Nat) (W : World) (hr : ReadsO W v h) (hq : Reads vi W u (intsN l)) (hs : SmallH h) (hx : x < h.length) (hlm : ∀ z ∈ l, z < h.length) (hll : l.length ≤ 100) :
    Calls Try.prog 37 #[v, u, .int .i64 ((x : Nat) : Int)] W (BoolMade W (nextB h l x)) := by
  have HR := Lib.hid hr
  have HQ := Lib.hid hq
  have HS := Lib.hid hs
  have HLM := Lib.hid hlm
  have HNI := Lib.hid (@next_iff h l x)
  obtain ⟨ua, uk, rfl, huk, hul⟩ := slc_ints hq
  obtain ⟨b, off, cap, a4, c4, a5, c5, rfl, hlc, hcm, hm4, hm5, hl4, hl5, hcell, r1, r2⟩ := hr.at2 hx
  have HN := Lib.hid (And.intro hcell (And.intro r1 r2))
  have hxi : (x : Int) < h.length := by omega
  have hx0 : (0 : Int) ≤ (x : Int) := by omega
  have HNX : Hid (nth h x = h[x]) := Lib.hid (nth_eq hx)
  have HIN := Lib.hid (rinN_any (.slice ua l.length uk) l x W hq)
  have dd := Lib.hid (hcell W (Below.refl _ _))
  have x1 := dd.out.2.1
  have x3 := dd.out.2.2.2.1
  generalize nextB h l x = res at *
  generalize h[x] = o at *
  clear hcell r1 r2 hr hq hs hlm dd hx
  go_enter Try.func37, Try.ntmps37
  by_cases hin : x ∈ l
  · have HF : Hid (res = false) := Lib.hid (Bool.eq_false_iff.2 fun e => (HNI.out.1 e).1 hin)
    rw [decide_eq_true hin] at HIN
    clear hin
    go_wp2_with fail
    refine HIN.out.mono ?_
    rintro e w1 ⟨rfl, hb1⟩
    have KW := Lib.hid hb1
    clear hb1 x1 x3
    go_wp2
    go_ret
    exact ⟨ret_bool HF.out.symm, KW.out⟩
  rw [decide_eq_false hin] at HIN
  have HXL := Lib.hid hin
  clear hin
  have hgo : ∀ w1, Below W.heap.size W w1 → w1.cell? ⟨b, off + x * 6 + 1, none⟩ = some (.int .i64 (kindO o)) ∧ w1.cell? ⟨b, off + x * 6 + 3, none⟩ = some (.int .i64 (endO o)) := fun w1 hb => ⟨(HN.out.1 w1 hb).2.1, (HN.out.1 w1 hb).2.2.2.1⟩
  have HGO := Lib.hid hgo
  clear hgo x1 x3
  go_wp2_with fail
  refine HIN.out.mono ?_
  rintro e w1 ⟨rfl, hb1⟩
  have KW1 := Lib.hid hb1
  have ee := Lib.hid (HGO.out w1 hb1)
  have x1 := ee.out.1
  have x3 := ee.out.2
  clear hb1 HIN ee
  by_cases hpr : kindO o = 2 ∧ endO o = -1
  · have HF : Hid (res = false) := Lib.hid (Bool.eq_false_iff.2 fun e => (HNI.out.1 e).2.1 (by rw [HNX.out]; exact hpr))
    have e1 := beq_t hpr.1
    have e2 := beq_t hpr.2
    clear hpr
    go_wp2
    go_ret
    exact ⟨ret_bool HF.out.symm, KW1.out⟩
  have HPR := Lib.hid hpr
  have HTE : Hid ((kindO o == 2) = true → (endO o == -1) = true → False) := Lib.hid fun a c => hpr ⟨by simpa using a, by simpa using c⟩
  clear hpr
  have hsplit : ((kindO o == 2) = false) ∨ ((kindO o == 2) = true ∧ (endO o == -1) = false) := by
    cases ha : (kindO o == 2) with
    | false => exact .inl rfl
    | true =>
      cases hc : (endO o == -1) with
      | false => exact .inr ⟨rfl, rfl⟩
      | true => exact (HTE.out ha hc).elim
  have HSP := Lib.hid hsplit
  clear hsplit HTE
  have HK1 : Hid (∀ P : Prop, ((kindO o == 2) = false → P) → ((kindO o == 2) = true → (endO o == -1) = false → P) → P) := Lib.hid fun P a c => HSP.out.elim a fun q => c q.1 q.2
  rcases HSP.out with s1 | ⟨s1, s2⟩
  · skip
    clear HSP HK1
    go_wp2
    go_loopg [7] h.length (fun m i wr => ∃ k : Nat, m + k = h.length ∧ i = .int .i64 k ∧ aftP h l x k ∧ Below W.heap.size W wr)
    case atStart => exact ⟨0, by omega, rfl, fun y hy => by omega, KW1.out⟩
    case round =>
      clear KW1 x1 x3
      obtain ⟨k, hmk, rfl, hall, hbel⟩ := hrel
      have HM := Lib.hid hmk
      have HP := Lib.hid hall
      have KW := Lib.hid hbel
      have hk : k ≤ h.length := by omega
      clear hmk hall hbel
      by_cases hlt : k < h.length
      · obtain ⟨b', off', cap2', d4, k4, d5, k5, hv, _, _, n4, n5, l4, l5, hcell, s1', s2'⟩ := HR.out.at2 hlt
        injection hv with e5 e6 e7
        injection e5 with e5
        injection e5 with e5 e8
        subst e5 e8
        have hki : (k : Int) < h.length := by omega
        have hk0 : (0 : Int) ≤ (k : Int) := by omega
        have HN2 := Lib.hid (And.intro hcell (And.intro s1' s2'))
        have HPE : Hid (prI h k x = precB h[k] o) := Lib.hid (by unfold prI; rw [HNX.out, nth_eq hlt])
        have HLT := Lib.hid (And.intro hlt trivial)
        clear e6 e7 hcell s1' s2'
        generalize h[k] = y at *
        clear hlt
        by_cases p1 : precB y o = true
        · by_cases p2 : k ∈ l
          · have P1 := Lib.hid p1
            have P2 := Lib.hid p2
            have HNX2 : Hid (aftP h l x (k + 1)) := Lib.hid fun z hz hp => by
              by_cases h1 : z = k
              · rw [h1]; exact P2.out
              · exact HP.out z (by omega) hp
            clear p1 p2
            go_wp2_with fail
            refine region_left [.is (.slice (some ⟨b, off, none⟩) h.length cap), .is (.int .i64 (k : Int)), .is (.pointer (some ⟨b, off + k * 6, none⟩)), .is (.agg #[.int .i64 (cliO y), .int .i64 (kindO y), .int .i64 (begO y), .int .i64 (endO y), .slice d4 (addO y).length k4, .slice d5 (seeO y).length k5]), .is (.slice (some ⟨b, off, none⟩) h.length cap), .is (.int .i64 (x : Int)), .is (.pointer (some ⟨b, off + x * 6, none⟩)), .is (.agg #[.int .i64 (cliO o), .int .i64 (kindO o), .int .i64 (begO o), .int .i64 (endO o), .slice a4 (addO o).length c4, .slice a5 (seeO o).length c5]), .is (.bool true), .is (.bool true), .is (.slice ua l.length uk), .is (.int .i64 (k : Int)), .is (.bool true), .is (.bool false), .is (.bool false)] (by kernel_rfl) rfl (by kernel_rfl) (by kernel_rfl) (.cons ?q1_0 (.cons ?q1_1 (.cons ?q1_2 (.cons ?q1_3 (.cons ?q1_4 (.cons ?q1_5 (.cons ?q1_6 (.cons ?q1_7 (.cons ?q1_8 (.cons ?q1_9 (.cons ?q1_10 (.cons ?q1_11 (.cons ?q1_12 (.cons ?q1_13 (.cons ?q1_14 .nil))))))))))))))) ?q1_fin
            case q1_0 =>
              intro wq hbw st  K hK
              have KQ := KW.out.trans (hbw.mono KW.out.size)
              simp only [Act.put, List.setIfInBounds_toArray, List.set_cons_zero, List.set_cons_succ] at hK ⊢
              unfold opStep
              rw [if_pos (by rfl)]
              go_simp
              exact hK.out _ _ (Below.refl _ _) rfl _ rfl
            case q1_1 =>
              intro wq hbw st  K hK
              have KQ := KW.out.trans (hbw.mono KW.out.size)
              simp only [Act.put, List.setIfInBounds_toArray, List.set_cons_zero, List.set_cons_succ] at hK ⊢
              unfold opStep
              rw [if_pos (by rfl)]
              go_simp
              exact hK.out _ _ (Below.refl _ _) rfl _ rfl
            case q1_2 =>
              intro wq hbw st  K hK
              have KQ := KW.out.trans (hbw.mono KW.out.size)
              simp only [Act.put, List.setIfInBounds_toArray, List.set_cons_zero, List.set_cons_succ] at hK ⊢
              unfold opStep
              rw [if_pos (by rfl)]
              go_simp
              exact hK.out _ _ (Below.refl _ _) rfl _ rfl
            case q1_3 =>
              intro wq hbw st  K hK
              have KQ := KW.out.trans (hbw.mono KW.out.size)
              simp only [Act.put, List.setIfInBounds_toArray, List.set_cons_zero, List.set_cons_succ] at hK ⊢
              unfold opStep
              rw [if_pos (by rfl)]
              have dd := Lib.hid (HN2.out.1 wq KQ)
              have d0 := dd.out.1
              have d1 := dd.out.2.1
              have d2 := dd.out.2.2.1
              have d3 := dd.out.2.2.2.1
              have d4 := dd.out.2.2.2.2.1
              have d5 := dd.out.2.2.2.2.2
              go_simp
              exact hK.out _ _ (Below.refl _ _) rfl _ rfl
            case q1_4 =>
              intro wq hbw st  K hK
              have KQ := KW.out.trans (hbw.mono KW.out.size)
              simp only [Act.put, List.setIfInBounds_toArray, List.set_cons_zero, List.set_cons_succ] at hK ⊢
              unfold opStep
              rw [if_pos (by rfl)]
              go_simp
              exact hK.out _ _ (Below.refl _ _) rfl _ rfl
            case q1_5 =>
              intro wq hbw st  K hK
              have KQ := KW.out.trans (hbw.mono KW.out.size)
              simp only [Act.put, List.setIfInBounds_toArray, List.set_cons_zero, List.set_cons_succ] at hK ⊢
              unfold opStep
              rw [if_pos (by rfl)]
              go_simp
              exact hK.out _ _ (Below.refl _ _) rfl _ rfl
            case q1_6 =>
              intro wq hbw st  K hK
              have KQ := KW.out.trans (hbw.mono KW.out.size)
              simp only [Act.put, List.setIfInBounds_toArray, List.set_cons_zero, List.set_cons_succ] at hK ⊢
              unfold opStep
              rw [if_pos (by rfl)]
              go_simp
              exact hK.out _ _ (Below.refl _ _) rfl _ rfl
            case q1_7 =>
              intro wq hbw st  K hK
              have KQ := KW.out.trans (hbw.mono KW.out.size)
              simp only [Act.put, List.setIfInBounds_toArray, List.set_cons_zero, List.set_cons_succ] at hK ⊢
              unfold opStep
              rw [if_pos (by rfl)]
              have dd := Lib.hid (HN.out.1 wq KQ)
              have d0 := dd.out.1
              have d1 := dd.out.2.1
              have d2 := dd.out.2.2.1
              have d3 := dd.out.2.2.2.1
              have d4 := dd.out.2.2.2.2.1
              have d5 := dd.out.2.2.2.2.2
              go_simp
              exact hK.out _ _ (Below.refl _ _) rfl _ rfl
            case q1_8 =>
              intro wq hbw st  K hK
              have KQ := KW.out.trans (hbw.mono KW.out.size)
              simp only [Act.put, List.setIfInBounds_toArray, List.set_cons_zero, List.set_cons_succ] at hK ⊢
              unfold opStep
              rw [if_pos (by rfl)]
              go_simp
              have hpc := rprec_any _ _ y o wq ⟨_, _, rfl, HN2.out.2.1.keep KQ, HN2.out.2.2.keep KQ⟩ ⟨_, _, rfl, HN.out.2.1.keep KQ, HN.out.2.2.keep KQ⟩
              rw [P1.out] at hpc
              refine hpc.mono ?_
              rintro e wz ⟨rfl, hbz⟩
              go_simp
              exact hK.out _ _ hbz rfl _ rfl
            case q1_9 =>
              intro wq hbw st  K hK
              have KQ := KW.out.trans (hbw.mono KW.out.size)
              simp only [Act.put, List.setIfInBounds_toArray, List.set_cons_zero, List.set_cons_succ] at hK ⊢
              unfold opStep
              rw [if_pos (by rfl)]
              go_simp
              exact hK.out _ _ (Below.refl _ _) rfl _ rfl
            case q1_10 =>
              intro wq hbw st  K hK
              have KQ := KW.out.trans (hbw.mono KW.out.size)
              simp only [Act.put, List.setIfInBounds_toArray, List.set_cons_zero, List.set_cons_succ] at hK ⊢
              unfold opStep
              rw [if_pos (by rfl)]
              go_simp
              exact hK.out _ _ (Below.refl _ _) rfl _ rfl
            case q1_11 =>
              intro wq hbw st  K hK
              have KQ := KW.out.trans (hbw.mono KW.out.size)
              simp only [Act.put, List.setIfInBounds_toArray, List.set_cons_zero, List.set_cons_succ] at hK ⊢
              unfold opStep
              rw [if_pos (by rfl)]
              go_simp
              exact hK.out _ _ (Below.refl _ _) rfl _ rfl
            case q1_12 =>
              intro wq hbw st  K hK
              have KQ := KW.out.trans (hbw.mono KW.out.size)
              simp only [Act.put, List.setIfInBounds_toArray, List.set_cons_zero, List.set_cons_succ] at hK ⊢
              unfold opStep
              rw [if_pos (by rfl)]
              go_simp
              have hin := rinN_any (.slice ua l.length uk) l k wq (HQ.out.keep KQ)
              rw [decide_eq_true P2.out] at hin
              refine hin.mono ?_
              rintro e wz ⟨rfl, hbz⟩
              go_simp
              exact hK.out _ _ hbz rfl _ rfl
            case q1_13 =>
              intro wq hbw st  K hK
              have KQ := KW.out.trans (hbw.mono KW.out.size)
              simp only [Act.put, List.setIfInBounds_toArray, List.set_cons_zero, List.set_cons_succ] at hK ⊢
              unfold opStep
              rw [if_pos (by rfl)]
              go_simp
              exact hK.out _ _ (Below.refl _ _) rfl _ rfl
            case q1_14 =>
              intro wq hbw st  K hK
              have KQ := KW.out.trans (hbw.mono KW.out.size)
              simp only [Act.put, List.setIfInBounds_toArray, List.set_cons_zero, List.set_cons_succ] at hK ⊢
              unfold opStep
              rw [if_pos (by rfl)]
              go_simp
              exact hK.out _ _ (Below.refl _ _) rfl _ rfl
            case q1_fin =>
              intro wq hbw
              try simp only [FinAll]
              simp only [Act.put, List.setIfInBounds_toArray, List.set_cons_zero, List.set_cons_succ]
              replace KW := Lib.hid (KW.out.trans (hbw.mono KW.out.size))
              clear hbw
              go_wp2
              go_roundg (h.length - (k + 1))
              case measure => have := HM.out; omega
              case rel => exact ⟨k + 1, by omega, by go_num, HNX2.out, KW.out⟩
          · have P1 := Lib.hid p1
            have P2 := Lib.hid p2
            have HF : Hid (res = false) := Lib.hid (Bool.eq_false_iff.2 fun e => p2 ((HNI.out.1 e).2.2.1 k HLT.out.1 (by rw [HPE.out]; exact p1)))
            clear p1 p2
            go_wp2_with fail
            refine region_left [.is (.slice (some ⟨b, off, none⟩) h.length cap), .is (.int .i64 (k : Int)), .is (.pointer (some ⟨b, off + k * 6, none⟩)), .is (.agg #[.int .i64 (cliO y), .int .i64 (kindO y), .int .i64 (begO y), .int .i64 (endO y), .slice d4 (addO y).length k4, .slice d5 (seeO y).length k5]), .is (.slice (some ⟨b, off, none⟩) h.length cap), .is (.int .i64 (x : Int)), .is (.pointer (some ⟨b, off + x * 6, none⟩)), .is (.agg #[.int .i64 (cliO o), .int .i64 (kindO o), .int .i64 (begO o), .int .i64 (endO o), .slice a4 (addO o).length c4, .slice a5 (seeO o).length c5]), .is (.bool true), .is (.bool true), .is (.slice ua l.length uk), .is (.int .i64 (k : Int)), .is (.bool false), .is (.bool true), .is (.bool true)] (by kernel_rfl) rfl (by kernel_rfl) (by kernel_rfl) (.cons ?q2_0 (.cons ?q2_1 (.cons ?q2_2 (.cons ?q2_3 (.cons ?q2_4 (.cons ?q2_5 (.cons ?q2_6 (.cons ?q2_7 (.cons ?q2_8 (.cons ?q2_9 (.cons ?q2_10 (.cons ?q2_11 (.cons ?q2_12 (.cons ?q2_13 (.cons ?q2_14 .nil))))))))))))))) ?q2_fin
            case q2_0 =>
              intro wq hbw st  K hK
              have KQ := KW.out.trans (hbw.mono KW.out.size)
              simp only [Act.put, List.setIfInBounds_toArray, List.set_cons_zero, List.set_cons_succ] at hK ⊢
              unfold opStep
              rw [if_pos (by rfl)]
              go_simp
              exact hK.out _ _ (Below.refl _ _) rfl _ rfl
            case q2_1 =>
              intro wq hbw st  K hK
              have KQ := KW.out.trans (hbw.mono KW.out.size)
              simp only [Act.put, List.setIfInBounds_toArray, List.set_cons_zero, List.set_cons_succ] at hK ⊢
              unfold opStep
              rw [if_pos (by rfl)]
              go_simp
              exact hK.out _ _ (Below.refl _ _) rfl _ rfl
            case q2_2 =>
              intro wq hbw st  K hK
              have KQ := KW.out.trans (hbw.mono KW.out.size)
              simp only [Act.put, List.setIfInBounds_toArray, List.set_cons_zero, List.set_cons_succ] at hK ⊢
              unfold opStep
              rw [if_pos (by rfl)]
              go_simp
              exact hK.out _ _ (Below.refl _ _) rfl _ rfl
            case q2_3 =>
              intro wq hbw st  K hK
              have KQ := KW.out.trans (hbw.mono KW.out.size)
              simp only [Act.put, List.setIfInBounds_toArray, List.set_cons_zero, List.set_cons_succ] at hK ⊢
              unfold opStep
              rw [if_pos (by rfl)]
              have dd := Lib.hid (HN2.out.1 wq KQ)
              have d0 := dd.out.1
              have d1 := dd.out.2.1
              have d2 := dd.out.2.2.1
              have d3 := dd.out.2.2.2.1
              have d4 := dd.out.2.2.2.2.1
              have d5 := dd.out.2.2.2.2.2
              go_simp
              exact hK.out _ _ (Below.refl _ _) rfl _ rfl
            case q2_4 =>
              intro wq hbw st  K hK
              have KQ := KW.out.trans (hbw.mono KW.out.size)
              simp only [Act.put, List.setIfInBounds_toArray, List.set_cons_zero, List.set_cons_succ] at hK ⊢
              unfold opStep
              rw [if_pos (by rfl)]
              go_simp
              exact hK.out _ _ (Below.refl _ _) rfl _ rfl
            case q2_5 =>
              intro wq hbw st  K hK
              have KQ := KW.out.trans (hbw.mono KW.out.size)
              simp only [Act.put, List.setIfInBounds_toArray, List.set_cons_zero, List.set_cons_succ] at hK ⊢
              unfold opStep
              rw [if_pos (by rfl)]
              go_simp
              exact hK.out _ _ (Below.refl _ _) rfl _ rfl
            case q2_6 =>
              intro wq hbw st  K hK
              have KQ := KW.out.trans (hbw.mono KW.out.size)
              simp only [Act.put, List.setIfInBounds_toArray, List.set_cons_zero, List.set_cons_succ] at hK ⊢
              unfold opStep
              rw [if_pos (by rfl)]
              go_simp
              exact hK.out _ _ (Below.refl _ _) rfl _ rfl
            case q2_7 =>
              intro wq hbw st  K hK
              have KQ := KW.out.trans (hbw.mono KW.out.size)
              simp only [Act.put, List.setIfInBounds_toArray, List.set_cons_zero, List.set_cons_succ] at hK ⊢
              unfold opStep
              rw [if_pos (by rfl)]
              have dd := Lib.hid (HN.out.1 wq KQ)
              have d0 := dd.out.1
              have d1 := dd.out.2.1
              have d2 := dd.out.2.2.1
              have d3 := dd.out.2.2.2.1
              have d4 := dd.out.2.2.2.2.1
              have d5 := dd.out.2.2.2.2.2
              go_simp
              exact hK.out _ _ (Below.refl _ _) rfl _ rfl
            case q2_8 =>
              intro wq hbw st  K hK
              have KQ := KW.out.trans (hbw.mono KW.out.size)
              simp only [Act.put, List.setIfInBounds_toArray, List.set_cons_zero, List.set_cons_succ] at hK ⊢
              unfold opStep
              rw [if_pos (by rfl)]
              go_simp
              have hpc := rprec_any _ _ y o wq ⟨_, _, rfl, HN2.out.2.1.keep KQ, HN2.out.2.2.keep KQ⟩ ⟨_, _, rfl, HN.out.2.1.keep KQ, HN.out.2.2.keep KQ⟩
              rw [P1.out] at hpc
              refine hpc.mono ?_
              rintro e wz ⟨rfl, hbz⟩
              go_simp
              exact hK.out _ _ hbz rfl _ rfl
            case q2_9 =>
              intro wq hbw st  K hK
              have KQ := KW.out.trans (hbw.mono KW.out.size)
              simp only [Act.put, List.setIfInBounds_toArray, List.set_cons_zero, List.set_cons_succ] at hK ⊢
              unfold opStep
              rw [if_pos (by rfl)]
              go_simp
              exact hK.out _ _ (Below.refl _ _) rfl _ rfl
            case q2_10 =>
              intro wq hbw st  K hK
              have KQ := KW.out.trans (hbw.mono KW.out.size)
              simp only [Act.put, List.setIfInBounds_toArray, List.set_cons_zero, List.set_cons_succ] at hK ⊢
              unfold opStep
              rw [if_pos (by rfl)]
              go_simp
              exact hK.out _ _ (Below.refl _ _) rfl _ rfl
            case q2_11 =>
              intro wq hbw st  K hK
              have KQ := KW.out.trans (hbw.mono KW.out.size)
              simp only [Act.put, List.setIfInBounds_toArray, List.set_cons_zero, List.set_cons_succ] at hK ⊢
              unfold opStep
              rw [if_pos (by rfl)]
              go_simp
              exact hK.out _ _ (Below.refl _ _) rfl _ rfl
            case q2_12 =>
              intro wq hbw st  K hK
              have KQ := KW.out.trans (hbw.mono KW.out.size)
              simp only [Act.put, List.setIfInBounds_toArray, List.set_cons_zero, List.set_cons_succ] at hK ⊢
              unfold opStep
              rw [if_pos (by rfl)]
              go_simp
              have hin := rinN_any (.slice ua l.length uk) l k wq (HQ.out.keep KQ)
              rw [decide_eq_false P2.out] at hin
              refine hin.mono ?_
              rintro e wz ⟨rfl, hbz⟩
              go_simp
              exact hK.out _ _ hbz rfl _ rfl
            case q2_13 =>
              intro wq hbw st  K hK
              have KQ := KW.out.trans (hbw.mono KW.out.size)
              simp only [Act.put, List.setIfInBounds_toArray, List.set_cons_zero, List.set_cons_succ] at hK ⊢
              unfold opStep
              rw [if_pos (by rfl)]
              go_simp
              exact hK.out _ _ (Below.refl _ _) rfl _ rfl
            case q2_14 =>
              intro wq hbw st  K hK
              have KQ := KW.out.trans (hbw.mono KW.out.size)
              simp only [Act.put, List.setIfInBounds_toArray, List.set_cons_zero, List.set_cons_succ] at hK ⊢
              unfold opStep
              rw [if_pos (by rfl)]
              go_simp
              exact hK.out _ _ (Below.refl _ _) rfl _ rfl
            case q2_fin =>
              intro wq hbw
              try simp only [FinAll]
              simp only [Act.put, List.setIfInBounds_toArray, List.set_cons_zero, List.set_cons_succ]
              replace KW := Lib.hid (KW.out.trans (hbw.mono KW.out.size))
              clear hbw
              go_wp2
              go_ret
              exact ⟨ret_bool HF.out.symm, KW.out⟩
        · have P1 := Lib.hid (Bool.eq_false_iff.2 p1)
          have HNX2 : Hid (aftP h l x (k + 1)) := Lib.hid fun z hz hp => by
            by_cases h1 : z = k
            · rw [h1, HPE.out] at hp; exact absurd hp p1
            · exact HP.out z (by omega) hp
          clear p1
          go_wp2_with fail
          refine region_left [.is (.slice (some ⟨b, off, none⟩) h.length cap), .is (.int .i64 (k : Int)), .is (.pointer (some ⟨b, off + k * 6, none⟩)), .is (.agg #[.int .i64 (cliO y), .int .i64 (kindO y), .int .i64 (begO y), .int .i64 (endO y), .slice d4 (addO y).length k4, .slice d5 (seeO y).length k5]), .is (.slice (some ⟨b, off, none⟩) h.length cap), .is (.int .i64 (x : Int)), .is (.pointer (some ⟨b, off + x * 6, none⟩)), .is (.agg #[.int .i64 (cliO o), .int .i64 (kindO o), .int .i64 (begO o), .int .i64 (endO o), .slice a4 (addO o).length c4, .slice a5 (seeO o).length c5]), .is (.bool false), .is (.bool false), .is undef, .is undef, .is undef, .is undef, .is (.bool false)] (by kernel_rfl) rfl (by kernel_rfl) (by kernel_rfl) (.cons ?q3_0 (.cons ?q3_1 (.cons ?q3_2 (.cons ?q3_3 (.cons ?q3_4 (.cons ?q3_5 (.cons ?q3_6 (.cons ?q3_7 (.cons ?q3_8 (.cons ?q3_9 (.cons ?q3_10 (.cons ?q3_11 (.cons ?q3_12 (.cons ?q3_13 (.cons ?q3_14 .nil))))))))))))))) ?q3_fin
          case q3_0 =>
            intro wq hbw st  K hK
            have KQ := KW.out.trans (hbw.mono KW.out.size)
            simp only [Act.put, List.setIfInBounds_toArray, List.set_cons_zero, List.set_cons_succ] at hK ⊢
            unfold opStep
            rw [if_pos (by rfl)]
            go_simp
            exact hK.out _ _ (Below.refl _ _) rfl _ rfl
          case q3_1 =>
            intro wq hbw st  K hK
            have KQ := KW.out.trans (hbw.mono KW.out.size)
            simp only [Act.put, List.setIfInBounds_toArray, List.set_cons_zero, List.set_cons_succ] at hK ⊢
            unfold opStep
            rw [if_pos (by rfl)]
            go_simp
            exact hK.out _ _ (Below.refl _ _) rfl _ rfl
          case q3_2 =>
            intro wq hbw st  K hK
            have KQ := KW.out.trans (hbw.mono KW.out.size)
            simp only [Act.put, List.setIfInBounds_toArray, List.set_cons_zero, List.set_cons_succ] at hK ⊢
            unfold opStep
            rw [if_pos (by rfl)]
            go_simp
            exact hK.out _ _ (Below.refl _ _) rfl _ rfl
          case q3_3 =>
            intro wq hbw st  K hK
            have KQ := KW.out.trans (hbw.mono KW.out.size)
            simp only [Act.put, List.setIfInBounds_toArray, List.set_cons_zero, List.set_cons_succ] at hK ⊢
            unfold opStep
            rw [if_pos (by rfl)]
            have dd := Lib.hid (HN2.out.1 wq KQ)
            have d0 := dd.out.1
            have d1 := dd.out.2.1
            have d2 := dd.out.2.2.1
            have d3 := dd.out.2.2.2.1
            have d4 := dd.out.2.2.2.2.1
            have d5 := dd.out.2.2.2.2.2
            go_simp
            exact hK.out _ _ (Below.refl _ _) rfl _ rfl
          case q3_4 =>
            intro wq hbw st  K hK
            have KQ := KW.out.trans (hbw.mono KW.out.size)
            simp only [Act.put, List.setIfInBounds_toArray, List.set_cons_zero, List.set_cons_succ] at hK ⊢
            unfold opStep
            rw [if_pos (by rfl)]
            go_simp
            exact hK.out _ _ (Below.refl _ _) rfl _ rfl
          case q3_5 =>
            intro wq hbw st  K hK
            have KQ := KW.out.trans (hbw.mono KW.out.size)
            simp only [Act.put, List.setIfInBounds_toArray, List.set_cons_zero, List.set_cons_succ] at hK ⊢
            unfold opStep
            rw [if_pos (by rfl)]
            go_simp
            exact hK.out _ _ (Below.refl _ _) rfl _ rfl
          case q3_6 =>
            intro wq hbw st  K hK
            have KQ := KW.out.trans (hbw.mono KW.out.size)
            simp only [Act.put, List.setIfInBounds_toArray, List.set_cons_zero, List.set_cons_succ] at hK ⊢
            unfold opStep
            rw [if_pos (by rfl)]
            go_simp
            exact hK.out _ _ (Below.refl _ _) rfl _ rfl
          case q3_7 =>
            intro wq hbw st  K hK
            have KQ := KW.out.trans (hbw.mono KW.out.size)
            simp only [Act.put, List.setIfInBounds_toArray, List.set_cons_zero, List.set_cons_succ] at hK ⊢
            unfold opStep
            rw [if_pos (by rfl)]
            have dd := Lib.hid (HN.out.1 wq KQ)
            have d0 := dd.out.1
            have d1 := dd.out.2.1
            have d2 := dd.out.2.2.1
            have d3 := dd.out.2.2.2.1
            have d4 := dd.out.2.2.2.2.1
            have d5 := dd.out.2.2.2.2.2
            go_simp
            exact hK.out _ _ (Below.refl _ _) rfl _ rfl
          case q3_8 =>
            intro wq hbw st  K hK
            have KQ := KW.out.trans (hbw.mono KW.out.size)
            simp only [Act.put, List.setIfInBounds_toArray, List.set_cons_zero, List.set_cons_succ] at hK ⊢
            unfold opStep
            rw [if_pos (by rfl)]
            go_simp
            have hpc := rprec_any _ _ y o wq ⟨_, _, rfl, HN2.out.2.1.keep KQ, HN2.out.2.2.keep KQ⟩ ⟨_, _, rfl, HN.out.2.1.keep KQ, HN.out.2.2.keep KQ⟩
            rw [P1.out] at hpc
            refine hpc.mono ?_
            rintro e wz ⟨rfl, hbz⟩
            go_simp
            exact hK.out _ _ hbz rfl _ rfl
          case q3_9 =>
            intro wq hbw st  K hK
            have KQ := KW.out.trans (hbw.mono KW.out.size)
            simp only [Act.put, List.setIfInBounds_toArray, List.set_cons_zero, List.set_cons_succ] at hK ⊢
            unfold opStep
            rw [if_pos (by rfl)]
            go_simp
            exact hK.out _ _ (Below.refl _ _) rfl _ rfl
          case q3_10 =>
            intro wq hbw st  K hK
            have KQ := KW.out.trans (hbw.mono KW.out.size)
            simp only [Act.put, List.setIfInBounds_toArray, List.set_cons_zero, List.set_cons_succ] at hK ⊢
            unfold opStep
            rw [if_neg (by change ¬ (false = true); exact Bool.false_ne_true)]
            exact hK.out _ _ (Below.refl _ _) rfl _ rfl
          case q3_11 =>
            intro wq hbw st  K hK
            have KQ := KW.out.trans (hbw.mono KW.out.size)
            simp only [Act.put, List.setIfInBounds_toArray, List.set_cons_zero, List.set_cons_succ] at hK ⊢
            unfold opStep
            rw [if_neg (by change ¬ (false = true); exact Bool.false_ne_true)]
            exact hK.out _ _ (Below.refl _ _) rfl _ rfl
          case q3_12 =>
            intro wq hbw st  K hK
            have KQ := KW.out.trans (hbw.mono KW.out.size)
            simp only [Act.put, List.setIfInBounds_toArray, List.set_cons_zero, List.set_cons_succ] at hK ⊢
            unfold opStep
            rw [if_neg (by change ¬ (false = true); exact Bool.false_ne_true)]
            exact hK.out _ _ (Below.refl _ _) rfl _ rfl
          case q3_13 =>
            intro wq hbw st  K hK
            have KQ := KW.out.trans (hbw.mono KW.out.size)
            simp only [Act.put, List.setIfInBounds_toArray, List.set_cons_zero, List.set_cons_succ] at hK ⊢
            unfold opStep
            rw [if_neg (by change ¬ (false = true); exact Bool.false_ne_true)]
            exact hK.out _ _ (Below.refl _ _) rfl _ rfl
          case q3_14 =>
            intro wq hbw st  K hK
            have KQ := KW.out.trans (hbw.mono KW.out.size)
            simp only [Act.put, List.setIfInBounds_toArray, List.set_cons_zero, List.set_cons_succ] at hK ⊢
            unfold opStep
            rw [if_pos (by rfl)]
            go_simp
            exact hK.out _ _ (Below.refl _ _) rfl _ rfl
          case q3_fin =>
            intro wq hbw
            try simp only [FinAll]
            simp only [Act.put, List.setIfInBounds_toArray, List.set_cons_zero, List.set_cons_succ]
            replace KW := Lib.hid (KW.out.trans (hbw.mono KW.out.size))
            clear hbw
            go_wp2
            go_roundg (h.length - (k + 1))
            case measure => have := HM.out; omega
            case rel => exact ⟨k + 1, by omega, by go_num, HNX2.out, KW.out⟩
      · have HAF : Hid (∀ y, y < h.length → prI h y x = true → y ∈ l) := Lib.hid fun y hy hp => HP.out y (by omega) hp
        have ee := Lib.hid (HGO.out wr KW.out)
        have x1 := ee.out.1
        have x3 := ee.out.2
        clear ee HP
        have HF : Hid (res = true) := Lib.hid (HNI.out.2 ⟨HXL.out, by rw [HNX.out]; exact HPR.out, HAF.out, fun e => by rw [HNX.out] at e; rw [beq_t e] at s1; cases s1⟩)
        have s3 := bne_t (show ¬ kindO o = 2 from fun e => by rw [beq_t e] at s1; cases s1)
        go_wp2
        go_ret
        exact ⟨ret_bool HF.out.symm, KW.out⟩
  · skip
    clear HSP HK1
    go_wp2
    go_loopg [7] h.length (fun m i wr => ∃ k : Nat, m + k = h.length ∧ i = .int .i64 k ∧ aftP h l x k ∧ Below W.heap.size W wr)
    case atStart => exact ⟨0, by omega, rfl, fun y hy => by omega, KW1.out⟩
    case round =>
      clear KW1 x1 x3
      obtain ⟨k, hmk, rfl, hall, hbel⟩ := hrel
      have HM := Lib.hid hmk
      have HP := Lib.hid hall
      have KW := Lib.hid hbel
      have hk : k ≤ h.length := by omega
      clear hmk hall hbel
      by_cases hlt : k < h.length
      · obtain ⟨b', off', cap2', d4, k4, d5, k5, hv, _, _, n4, n5, l4, l5, hcell, s1', s2'⟩ := HR.out.at2 hlt
        injection hv with e5 e6 e7
        injection e5 with e5
        injection e5 with e5 e8
        subst e5 e8
        have hki : (k : Int) < h.length := by omega
        have hk0 : (0 : Int) ≤ (k : Int) := by omega
        have HN2 := Lib.hid (And.intro hcell (And.intro s1' s2'))
        have HPE : Hid (prI h k x = precB h[k] o) := Lib.hid (by unfold prI; rw [HNX.out, nth_eq hlt])
        have HLT := Lib.hid (And.intro hlt trivial)
        clear e6 e7 hcell s1' s2'
        generalize h[k] = y at *
        clear hlt
        by_cases p1 : precB y o = true
        · by_cases p2 : k ∈ l
          · have P1 := Lib.hid p1
            have P2 := Lib.hid p2
            have HNX2 : Hid (aftP h l x (k + 1)) := Lib.hid fun z hz hp => by
              by_cases h1 : z = k
              · rw [h1]; exact P2.out
              · exact HP.out z (by omega) hp
            clear p1 p2
            go_wp2_with fail
            refine region_left [.is (.slice (some ⟨b, off, none⟩) h.length cap), .is (.int .i64 (k : Int)), .is (.pointer (some ⟨b, off + k * 6, none⟩)), .is (.agg #[.int .i64 (cliO y), .int .i64 (kindO y), .int .i64 (begO y), .int .i64 (endO y), .slice d4 (addO y).length k4, .slice d5 (seeO y).length k5]), .is (.slice (some ⟨b, off, none⟩) h.length cap), .is (.int .i64 (x : Int)), .is (.pointer (some ⟨b, off + x * 6, none⟩)), .is (.agg #[.int .i64 (cliO o), .int .i64 (kindO o), .int .i64 (begO o), .int .i64 (endO o), .slice a4 (addO o).length c4, .slice a5 (seeO o).length c5]), .is (.bool true), .is (.bool true), .is (.slice ua l.length uk), .is (.int .i64 (k : Int)), .is (.bool true), .is (.bool false), .is (.bool false)] (by kernel_rfl) rfl (by kernel_rfl) (by kernel_rfl) (.cons ?q4_0 (.cons ?q4_1 (.cons ?q4_2 (.cons ?q4_3 (.cons ?q4_4 (.cons ?q4_5 (.cons ?q4_6 (.cons ?q4_7 (.cons ?q4_8 (.cons ?q4_9 (.cons ?q4_10 (.cons ?q4_11 (.cons ?q4_12 (.cons ?q4_13 (.cons ?q4_14 .nil))))))))))))))) ?q4_fin
            case q4_0 =>
              intro wq hbw st  K hK
              have KQ := KW.out.trans (hbw.mono KW.out.size)
              simp only [Act.put, List.setIfInBounds_toArray, List.set_cons_zero, List.set_cons_succ] at hK ⊢
              unfold opStep
              rw [if_pos (by rfl)]
              go_simp
              exact hK.out _ _ (Below.refl _ _) rfl _ rfl
            case q4_1 =>
              intro wq hbw st  K hK
              have KQ := KW.out.trans (hbw.mono KW.out.size)
              simp only [Act.put, List.setIfInBounds_toArray, List.set_cons_zero, List.set_cons_succ] at hK ⊢
              unfold opStep
              rw [if_pos (by rfl)]
              go_simp
              exact hK.out _ _ (Below.refl _ _) rfl _ rfl
            case q4_2 =>
              intro wq hbw st  K hK
              have KQ := KW.out.trans (hbw.mono KW.out.size)
              simp only [Act.put, List.setIfInBounds_toArray, List.set_cons_zero, List.set_cons_succ] at hK ⊢
              unfold opStep
              rw [if_pos (by rfl)]
              go_simp
              exact hK.out _ _ (Below.refl _ _) rfl _ rfl
            case q4_3 =>
              intro wq hbw st  K hK
              have KQ := KW.out.trans (hbw.mono KW.out.size)
              simp only [Act.put, List.setIfInBounds_toArray, List.set_cons_zero, List.set_cons_succ] at hK ⊢
              unfold opStep
              rw [if_pos (by rfl)]
              have dd := Lib.hid (HN2.out.1 wq KQ)
              have d0 := dd.out.1
              have d1 := dd.out.2.1
              have d2 := dd.out.2.2.1
              have d3 := dd.out.2.2.2.1
              have d4 := dd.out.2.2.2.2.1
              have d5 := dd.out.2.2.2.2.2
              go_simp
              exact hK.out _ _ (Below.refl _ _) rfl _ rfl
            case q4_4 =>
              intro wq hbw st  K hK
              have KQ := KW.out.trans (hbw.mono KW.out.size)
              simp only [Act.put, List.setIfInBounds_toArray, List.set_cons_zero, List.set_cons_succ] at hK ⊢
              unfold opStep
              rw [if_pos (by rfl)]
              go_simp
              exact hK.out _ _ (Below.refl _ _) rfl _ rfl
            case q4_5 =>
              intro wq hbw st  K hK
              have KQ := KW.out.trans (hbw.mono KW.out.size)
              simp only [Act.put, List.setIfInBounds_toArray, List.set_cons_zero, List.set_cons_succ] at hK ⊢
              unfold opStep
              rw [if_pos (by rfl)]
              go_simp
              exact hK.out _ _ (Below.refl _ _) rfl _ rfl
            case q4_6 =>
              intro wq hbw st  K hK
              have KQ := KW.out.trans (hbw.mono KW.out.size)
              simp only [Act.put, List.setIfInBounds_toArray, List.set_cons_zero, List.set_cons_succ] at hK ⊢
              unfold opStep
              rw [if_pos (by rfl)]
              go_simp
              exact hK.out _ _ (Below.refl _ _) rfl _ rfl
            case q4_7 =>
              intro wq hbw st  K hK
              have KQ := KW.out.trans (hbw.mono KW.out.size)
              simp only [Act.put, List.setIfInBounds_toArray, List.set_cons_zero, List.set_cons_succ] at hK ⊢
              unfold opStep
              rw [if_pos (by rfl)]
              have dd := Lib.hid (HN.out.1 wq KQ)
              have d0 := dd.out.1
              have d1 := dd.out.2.1
              have d2 := dd.out.2.2.1
              have d3 := dd.out.2.2.2.1
              have d4 := dd.out.2.2.2.2.1
              have d5 := dd.out.2.2.2.2.2
              go_simp
              exact hK.out _ _ (Below.refl _ _) rfl _ rfl
            case q4_8 =>
              intro wq hbw st  K hK
              have KQ := KW.out.trans (hbw.mono KW.out.size)
              simp only [Act.put, List.setIfInBounds_toArray, List.set_cons_zero, List.set_cons_succ] at hK ⊢
              unfold opStep
              rw [if_pos (by rfl)]
              go_simp
              have hpc := rprec_any _ _ y o wq ⟨_, _, rfl, HN2.out.2.1.keep KQ, HN2.out.2.2.keep KQ⟩ ⟨_, _, rfl, HN.out.2.1.keep KQ, HN.out.2.2.keep KQ⟩
              rw [P1.out] at hpc
              refine hpc.mono ?_
              rintro e wz ⟨rfl, hbz⟩
              go_simp
              exact hK.out _ _ hbz rfl _ rfl
            case q4_9 =>
              intro wq hbw st  K hK
              have KQ := KW.out.trans (hbw.mono KW.out.size)
              simp only [Act.put, List.setIfInBounds_toArray, List.set_cons_zero, List.set_cons_succ] at hK ⊢
              unfold opStep
              rw [if_pos (by rfl)]
              go_simp
              exact hK.out _ _ (Below.refl _ _) rfl _ rfl
            case q4_10 =>
              intro wq hbw st  K hK
              have KQ := KW.out.trans (hbw.mono KW.out.size)
              simp only [Act.put, List.setIfInBounds_toArray, List.set_cons_zero, List.set_cons_succ] at hK ⊢
              unfold opStep
              rw [if_pos (by rfl)]
              go_simp
              exact hK.out _ _ (Below.refl _ _) rfl _ rfl
            case q4_11 =>
              intro wq hbw st  K hK
              have KQ := KW.out.trans (hbw.mono KW.out.size)
              simp only [Act.put, List.setIfInBounds_toArray, List.set_cons_zero, List.set_cons_succ] at hK ⊢
              unfold opStep
              rw [if_pos (by rfl)]
              go_simp
              exact hK.out _ _ (Below.refl _ _) rfl _ rfl
            case q4_12 =>
              intro wq hbw st  K hK
              have KQ := KW.out.trans (hbw.mono KW.out.size)
              simp only [Act.put, List.setIfInBounds_toArray, List.set_cons_zero, List.set_cons_succ] at hK ⊢
              unfold opStep
              rw [if_pos (by rfl)]
              go_simp
              have hin := rinN_any (.slice ua l.length uk) l k wq (HQ.out.keep KQ)
              rw [decide_eq_true P2.out] at hin
              refine hin.mono ?_
              rintro e wz ⟨rfl, hbz⟩
              go_simp
              exact hK.out _ _ hbz rfl _ rfl
            case q4_13 =>
              intro wq hbw st  K hK
              have KQ := KW.out.trans (hbw.mono KW.out.size)
              simp only [Act.put, List.setIfInBounds_toArray, List.set_cons_zero, List.set_cons_succ] at hK ⊢
              unfold opStep
              rw [if_pos (by rfl)]
              go_simp
              exact hK.out _ _ (Below.refl _ _) rfl _ rfl
            case q4_14 =>
              intro wq hbw st  K hK
              have KQ := KW.out.trans (hbw.mono KW.out.size)
              simp only [Act.put, List.setIfInBounds_toArray, List.set_cons_zero, List.set_cons_succ] at hK ⊢
              unfold opStep
              rw [if_pos (by rfl)]
              go_simp
              exact hK.out _ _ (Below.refl _ _) rfl _ rfl
            case q4_fin =>
              intro wq hbw
              try simp only [FinAll]
              simp only [Act.put, List.setIfInBounds_toArray, List.set_cons_zero, List.set_cons_succ]
              replace KW := Lib.hid (KW.out.trans (hbw.mono KW.out.size))
              clear hbw
              go_wp2
              go_roundg (h.length - (k + 1))
              case measure => have := HM.out; omega
              case rel => exact ⟨k + 1, by omega, by go_num, HNX2.out, KW.out⟩
          · have P1 := Lib.hid p1
            have P2 := Lib.hid p2
            have HF : Hid (res = false) := Lib.hid (Bool.eq_false_iff.2 fun e => p2 ((HNI.out.1 e).2.2.1 k HLT.out.1 (by rw [HPE.out]; exact p1)))
            clear p1 p2
            go_wp2_with fail
            refine region_left [.is (.slice (some ⟨b, off, none⟩) h.length cap), .is (.int .i64 (k : Int)), .is (.pointer (some ⟨b, off + k * 6, none⟩)), .is (.agg #[.int .i64 (cliO y), .int .i64 (kindO y), .int .i64 (begO y), .int .i64 (endO y), .slice d4 (addO y).length k4, .slice d5 (seeO y).length k5]), .is (.slice (some ⟨b, off, none⟩) h.length cap), .is (.int .i64 (x : Int)), .is (.pointer (some ⟨b, off + x * 6, none⟩)), .is (.agg #[.int .i64 (cliO o), .int .i64 (kindO o), .int .i64 (begO o), .int .i64 (endO o), .slice a4 (addO o).length c4, .slice a5 (seeO o).length c5]), .is (.bool true), .is (.bool true), .is (.slice ua l.length uk), .is (.int .i64 (k : Int)), .is (.bool false), .is (.bool true), .is (.bool true)] (by kernel_rfl) rfl (by kernel_rfl) (by kernel_rfl) (.cons ?q5_0 (.cons ?q5_1 (.cons ?q5_2 (.cons ?q5_3 (.cons ?q5_4 (.cons ?q5_5 (.cons ?q5_6 (.cons ?q5_7 (.cons ?q5_8 (.cons ?q5_9 (.cons ?q5_10 (.cons ?q5_11 (.cons ?q5_12 (.cons ?q5_13 (.cons ?q5_14 .nil))))))))))))))) ?q5_fin
            case q5_0 =>
              intro wq hbw st  K hK
              have KQ := KW.out.trans (hbw.mono KW.out.size)
              simp only [Act.put, List.setIfInBounds_toArray, List.set_cons_zero, List.set_cons_succ] at hK ⊢
              unfold opStep
              rw [if_pos (by rfl)]
              go_simp
              exact hK.out _ _ (Below.refl _ _) rfl _ rfl
            case q5_1 =>
              intro wq hbw st  K hK
              have KQ := KW.out.trans (hbw.mono KW.out.size)
              simp only [Act.put, List.setIfInBounds_toArray, List.set_cons_zero, List.set_cons_succ] at hK ⊢
              unfold opStep
              rw [if_pos (by rfl)]
              go_simp
              exact hK.out _ _ (Below.refl _ _) rfl _ rfl
            case q5_2 =>
              intro wq hbw st  K hK
              have KQ := KW.out.trans (hbw.mono KW.out.size)
              simp only [Act.put, List.setIfInBounds_toArray, List.set_cons_zero, List.set_cons_succ] at hK ⊢
              unfold opStep
              rw [if_pos (by rfl)]
              go_simp
              exact hK.out _ _ (Below.refl _ _) rfl _ rfl
            case q5_3 =>
              intro wq hbw st  K hK
              have KQ := KW.out.trans (hbw.mono KW.out.size)
              simp only [Act.put, List.setIfInBounds_toArray, List.set_cons_zero, List.set_cons_succ] at hK ⊢
              unfold opStep
              rw [if_pos (by rfl)]
              have dd := Lib.hid (HN2.out.1 wq KQ)
              have d0 := dd.out.1
              have d1 := dd.out.2.1
              have d2 := dd.out.2.2.1
              have d3 := dd.out.2.2.2.1
              have d4 := dd.out.2.2.2.2.1
              have d5 := dd.out.2.2.2.2.2
              go_simp
              exact hK.out _ _ (Below.refl _ _) rfl _ rfl
            case q5_4 =>
              intro wq hbw st  K hK
              have KQ := KW.out.trans (hbw.mono KW.out.size)
              simp only [Act.put, List.setIfInBounds_toArray, List.set_cons_zero, List.set_cons_succ] at hK ⊢
              unfold opStep
              rw [if_pos (by rfl)]
              go_simp
              exact hK.out _ _ (Below.refl _ _) rfl _ rfl
            case q5_5 =>
              intro wq hbw st  K hK
              have KQ := KW.out.trans (hbw.mono KW.out.size)
              simp only [Act.put, List.setIfInBounds_toArray, List.set_cons_zero, List.set_cons_succ] at hK ⊢
              unfold opStep
              rw [if_pos (by rfl)]
              go_simp
              exact hK.out _ _ (Below.refl _ _) rfl _ rfl
            case q5_6 =>
              intro wq hbw st  K hK
              have KQ := KW.out.trans (hbw.mono KW.out.size)
              simp only [Act.put, List.setIfInBounds_toArray, List.set_cons_zero, List.set_cons_succ] at hK ⊢
              unfold opStep
              rw [if_pos (by rfl)]
              go_simp
              exact hK.out _ _ (Below.refl _ _) rfl _ rfl
            case q5_7 =>
              intro wq hbw st  K hK
              have KQ := KW.out.trans (hbw.mono KW.out.size)
              simp only [Act.put, List.setIfInBounds_toArray, List.set_cons_zero, List.set_cons_succ] at hK ⊢
              unfold opStep
              rw [if_pos (by rfl)]
              have dd := Lib.hid (HN.out.1 wq KQ)
              have d0 := dd.out.1
              have d1 := dd.out.2.1
              have d2 := dd.out.2.2.1
              have d3 := dd.out.2.2.2.1
              have d4 := dd.out.2.2.2.2.1
              have d5 := dd.out.2.2.2.2.2
              go_simp
              exact hK.out _ _ (Below.refl _ _) rfl _ rfl
            case q5_8 =>
              intro wq hbw st  K hK
              have KQ := KW.out.trans (hbw.mono KW.out.size)
              simp only [Act.put, List.setIfInBounds_toArray, List.set_cons_zero, List.set_cons_succ] at hK ⊢
              unfold opStep
              rw [if_pos (by rfl)]
              go_simp
              have hpc := rprec_any _ _ y o wq ⟨_, _, rfl, HN2.out.2.1.keep KQ, HN2.out.2.2.keep KQ⟩ ⟨_, _, rfl, HN.out.2.1.keep KQ, HN.out.2.2.keep KQ⟩
              rw [P1.out] at hpc
              refine hpc.mono ?_
              rintro e wz ⟨rfl, hbz⟩
              go_simp
              exact hK.out _ _ hbz rfl _ rfl
            case q5_9 =>
              intro wq hbw st  K hK
              have KQ := KW.out.trans (hbw.mono KW.out.size)
              simp only [Act.put, List.setIfInBounds_toArray, List.set_cons_zero, List.set_cons_succ] at hK ⊢
              unfold opStep
              rw [if_pos (by rfl)]
              go_simp
              exact hK.out _ _ (Below.refl _ _) rfl _ rfl
            case q5_10 =>
              intro wq hbw st  K hK
              have KQ := KW.out.trans (hbw.mono KW.out.size)
              simp only [Act.put, List.setIfInBounds_toArray, List.set_cons_zero, List.set_cons_succ] at hK ⊢
              unfold opStep
              rw [if_pos (by rfl)]
              go_simp
              exact hK.out _ _ (Below.refl _ _) rfl _ rfl
            case q5_11 =>
              intro wq hbw st  K hK
              have KQ := KW.out.trans (hbw.mono KW.out.size)
              simp only [Act.put, List.setIfInBounds_toArray, List.set_cons_zero, List.set_cons_succ] at hK ⊢
              unfold opStep
              rw [if_pos (by rfl)]
              go_simp
              exact hK.out _ _ (Below.refl _ _) rfl _ rfl
            case q5_12 =>
              intro wq hbw st  K hK
              have KQ := KW.out.trans (hbw.mono KW.out.size)
              simp only [Act.put, List.setIfInBounds_toArray, List.set_cons_zero, List.set_cons_succ] at hK ⊢
              unfold opStep
              rw [if_pos (by rfl)]
              go_simp
              have hin := rinN_any (.slice ua l.length uk) l k wq (HQ.out.keep KQ)
              rw [decide_eq_false P2.out] at hin
              refine hin.mono ?_
              rintro e wz ⟨rfl, hbz⟩
              go_simp
              exact hK.out _ _ hbz rfl _ rfl
            case q5_13 =>
              intro wq hbw st  K hK
              have KQ := KW.out.trans (hbw.mono KW.out.size)
              simp only [Act.put, List.setIfInBounds_toArray, List.set_cons_zero, List.set_cons_succ] at hK ⊢
              unfold opStep
              rw [if_pos (by rfl)]
              go_simp
              exact hK.out _ _ (Below.refl _ _) rfl _ rfl
            case q5_14 =>
              intro wq hbw st  K hK
              have KQ := KW.out.trans (hbw.mono KW.out.size)
              simp only [Act.put, List.setIfInBounds_toArray, List.set_cons_zero, List.set_cons_succ] at hK ⊢
              unfold opStep
              rw [if_pos (by rfl)]
              go_simp
              exact hK.out _ _ (Below.refl _ _) rfl _ rfl
            case q5_fin =>
              intro wq hbw
              try simp only [FinAll]
              simp only [Act.put, List.setIfInBounds_toArray, List.set_cons_zero, List.set_cons_succ]
              replace KW := Lib.hid (KW.out.trans (hbw.mono KW.out.size))
              clear hbw
              go_wp2
              go_ret
              exact ⟨ret_bool HF.out.symm, KW.out⟩
        · have P1 := Lib.hid (Bool.eq_false_iff.2 p1)
          have HNX2 : Hid (aftP h l x (k + 1)) := Lib.hid fun z hz hp => by
            by_cases h1 : z = k
            · rw [h1, HPE.out] at hp; exact absurd hp p1
            · exact HP.out z (by omega) hp
          clear p1
          go_wp2_with fail
          refine region_left [.is (.slice (some ⟨b, off, none⟩) h.length cap), .is (.int .i64 (k : Int)), .is (.pointer (some ⟨b, off + k * 6, none⟩)), .is (.agg #[.int .i64 (cliO y), .int .i64 (kindO y), .int .i64 (begO y), .int .i64 (endO y), .slice d4 (addO y).length k4, .slice d5 (seeO y).length k5]), .is (.slice (some ⟨b, off, none⟩) h.length cap), .is (.int .i64 (x : Int)), .is (.pointer (some ⟨b, off + x * 6, none⟩)), .is (.agg #[.int .i64 (cliO o), .int .i64 (kindO o), .int .i64 (begO o), .int .i64 (endO o), .slice a4 (addO o).length c4, .slice a5 (seeO o).length c5]), .is (.bool false), .is (.bool false), .is undef, .is undef, .is undef, .is undef, .is (.bool false)] (by kernel_rfl) rfl (by kernel_rfl) (by kernel_rfl) (.cons ?q6_0 (.cons ?q6_1 (.cons ?q6_2 (.cons ?q6_3 (.cons ?q6_4 (.cons ?q6_5 (.cons ?q6_6 (.cons ?q6_7 (.cons ?q6_8 (.cons ?q6_9 (.cons ?q6_10 (.cons ?q6_11 (.cons ?q6_12 (.cons ?q6_13 (.cons ?q6_14 .nil))))))))))))))) ?q6_fin
          case q6_0 =>
            intro wq hbw st  K hK
            have KQ := KW.out.trans (hbw.mono KW.out.size)
            simp only [Act.put, List.setIfInBounds_toArray, List.set_cons_zero, List.set_cons_succ] at hK ⊢
            unfold opStep
            rw [if_pos (by rfl)]
            go_simp
            exact hK.out _ _ (Below.refl _ _) rfl _ rfl
          case q6_1 =>
            intro wq hbw st  K hK
            have KQ := KW.out.trans (hbw.mono KW.out.size)
            simp only [Act.put, List.setIfInBounds_toArray, List.set_cons_zero, List.set_cons_succ] at hK ⊢
            unfold opStep
            rw [if_pos (by rfl)]
            go_simp
            exact hK.out _ _ (Below.refl _ _) rfl _ rfl
          case q6_2 =>
            intro wq hbw st  K hK
            have KQ := KW.out.trans (hbw.mono KW.out.size)
            simp only [Act.put, List.setIfInBounds_toArray, List.set_cons_zero, List.set_cons_succ] at hK ⊢
            unfold opStep
            rw [if_pos (by rfl)]
            go_simp
            exact hK.out _ _ (Below.refl _ _) rfl _ rfl
          case q6_3 =>
            intro wq hbw st  K hK
            have KQ := KW.out.trans (hbw.mono KW.out.size)
            simp only [Act.put, List.setIfInBounds_toArray, List.set_cons_zero, List.set_cons_succ] at hK ⊢
            unfold opStep
            rw [if_pos (by rfl)]
            have dd := Lib.hid (HN2.out.1 wq KQ)
            have d0 := dd.out.1
            have d1 := dd.out.2.1
            have d2 := dd.out.2.2.1
            have d3 := dd.out.2.2.2.1
            have d4 := dd.out.2.2.2.2.1
            have d5 := dd.out.2.2.2.2.2
            go_simp
            exact hK.out _ _ (Below.refl _ _) rfl _ rfl
          case q6_4 =>
            intro wq hbw st  K hK
            have KQ := KW.out.trans (hbw.mono KW.out.size)
            simp only [Act.put, List.setIfInBounds_toArray, List.set_cons_zero, List.set_cons_succ] at hK ⊢
            unfold opStep
            rw [if_pos (by rfl)]
            go_simp
            exact hK.out _ _ (Below.refl _ _) rfl _ rfl
          case q6_5 =>
            intro wq hbw st  K hK
            have KQ := KW.out.trans (hbw.mono KW.out.size)
            simp only [Act.put, List.setIfInBounds_toArray, List.set_cons_zero, List.set_cons_succ] at hK ⊢
            unfold opStep
            rw [if_pos (by rfl)]
            go_simp
            exact hK.out _ _ (Below.refl _ _) rfl _ rfl
          case q6_6 =>
            intro wq hbw st  K hK
            have KQ := KW.out.trans (hbw.mono KW.out.size)
            simp only [Act.put, List.setIfInBounds_toArray, List.set_cons_zero, List.set_cons_succ] at hK ⊢
            unfold opStep
            rw [if_pos (by rfl)]
            go_simp
            exact hK.out _ _ (Below.refl _ _) rfl _ rfl
          case q6_7 =>
            intro wq hbw st  K hK
            have KQ := KW.out.trans (hbw.mono KW.out.size)
            simp only [Act.put, List.setIfInBounds_toArray, List.set_cons_zero, List.set_cons_succ] at hK ⊢
            unfold opStep
            rw [if_pos (by rfl)]
            have dd := Lib.hid (HN.out.1 wq KQ)
            have d0 := dd.out.1
            have d1 := dd.out.2.1
            have d2 := dd.out.2.2.1
            have d3 := dd.out.2.2.2.1
            have d4 := dd.out.2.2.2.2.1
            have d5 := dd.out.2.2.2.2.2
            go_simp
            exact hK.out _ _ (Below.refl _ _) rfl _ rfl
          case q6_8 =>
            intro wq hbw st  K hK
            have KQ := KW.out.trans (hbw.mono KW.out.size)
            simp only [Act.put, List.setIfInBounds_toArray, List.set_cons_zero, List.set_cons_succ] at hK ⊢
            unfold opStep
            rw [if_pos (by rfl)]
            go_simp
            have hpc := rprec_any _ _ y o wq ⟨_, _, rfl, HN2.out.2.1.keep KQ, HN2.out.2.2.keep KQ⟩ ⟨_, _, rfl, HN.out.2.1.keep KQ, HN.out.2.2.keep KQ⟩
            rw [P1.out] at hpc
            refine hpc.mono ?_
            rintro e wz ⟨rfl, hbz⟩
            go_simp
            exact hK.out _ _ hbz rfl _ rfl
          case q6_9 =>
            intro wq hbw st  K hK
            have KQ := KW.out.trans (hbw.mono KW.out.size)
            simp only [Act.put, List.setIfInBounds_toArray, List.set_cons_zero, List.set_cons_succ] at hK ⊢
            unfold opStep
            rw [if_pos (by rfl)]
            go_simp
            exact hK.out _ _ (Below.refl _ _) rfl _ rfl
          case q6_10 =>
            intro wq hbw st  K hK
            have KQ := KW.out.trans (hbw.mono KW.out.size)
            simp only [Act.put, List.setIfInBounds_toArray, List.set_cons_zero, List.set_cons_succ] at hK ⊢
            unfold opStep
            rw [if_neg (by change ¬ (false = true); exact Bool.false_ne_true)]
            exact hK.out _ _ (Below.refl _ _) rfl _ rfl
          case q6_11 =>
            intro wq hbw st  K hK
            have KQ := KW.out.trans (hbw.mono KW.out.size)
            simp only [Act.put, List.setIfInBounds_toArray, List.set_cons_zero, List.set_cons_succ] at hK ⊢
            unfold opStep
            rw [if_neg (by change ¬ (false = true); exact Bool.false_ne_true)]
            exact hK.out _ _ (Below.refl _ _) rfl _ rfl
          case q6_12 =>
            intro wq hbw st  K hK
            have KQ := KW.out.trans (hbw.mono KW.out.size)
            simp only [Act.put, List.setIfInBounds_toArray, List.set_cons_zero, List.set_cons_succ] at hK ⊢
            unfold opStep
            rw [if_neg (by change ¬ (false = true); exact Bool.false_ne_true)]
            exact hK.out _ _ (Below.refl _ _) rfl _ rfl
          case q6_13 =>
            intro wq hbw st  K hK
            have KQ := KW.out.trans (hbw.mono KW.out.size)
            simp only [Act.put, List.setIfInBounds_toArray, List.set_cons_zero, List.set_cons_succ] at hK ⊢
            unfold opStep
            rw [if_neg (by change ¬ (false = true); exact Bool.false_ne_true)]
            exact hK.out _ _ (Below.refl _ _) rfl _ rfl
          case q6_14 =>
            intro wq hbw st  K hK
            have KQ := KW.out.trans (hbw.mono KW.out.size)
            simp only [Act.put, List.setIfInBounds_toArray, List.set_cons_zero, List.set_cons_succ] at hK ⊢
            unfold opStep
            rw [if_pos (by rfl)]
            go_simp
            exact hK.out _ _ (Below.refl _ _) rfl _ rfl
          case q6_fin =>
            intro wq hbw
            try simp only [FinAll]
            simp only [Act.put, List.setIfInBounds_toArray, List.set_cons_zero, List.set_cons_succ]
            replace KW := Lib.hid (KW.out.trans (hbw.mono KW.out.size))
            clear hbw
            go_wp2
            go_roundg (h.length - (k + 1))
            case measure => have := HM.out; omega
            case rel => exact ⟨k + 1, by omega, by go_num, HNX2.out, KW.out⟩
      · have HAF : Hid (∀ y, y < h.length → prI h y x = true → y ∈ l) := Lib.hid fun y hy hp => HP.out y (by omega) hp
        have ee := Lib.hid (HGO.out wr KW.out)
        have x1 := ee.out.1
        have x3 := ee.out.2
        clear ee HP
        have s3 := bne_f (show kindO o = 2 by simpa using s1)
        have HF : Hid (decide (stateL h l = seeO o) = res) := Lib.hid (by
          rw [Bool.eq_iff_iff, decide_eq_true_iff, HNI.out]
          constructor
          · intro e
            exact ⟨HXL.out, by rw [HNX.out]; exact HPR.out, HAF.out, fun _ => by rw [HNX.out]; exact e⟩
          · intro e
            have := e.2.2.2 (by rw [HNX.out]; simpa using s1)
            rwa [HNX.out] at this)
        go_wp2
        obtain ⟨G1, hG1⟩ : ∃ G, G = gk := ⟨_, rfl⟩
        subst hG1
        go_loopg [8, 9] l.length (fun m s i w3 => ∃ i' : Nat, m + i' = l.length ∧ i = .int .i64 i' ∧ Reads vs w3 s (stateL h (l.take i')) ∧ Below W.heap.size W w3)
        case atStart => exact ⟨0, by omega, rfl, Reads.empty _ _ 0 (Nat.zero_le _) (fun e => by cases e), KW.out.alloc KW.out.size _⟩
        case round =>
          clear x1 x3 KW
          obtain ⟨q, hmq, rfl, hst, hbel⟩ := hrel
          have HM2 := Lib.hid hmq
          have HST := Lib.hid hst
          have KW := Lib.hid hbel
          have hq : q ≤ l.length := by omega
          clear hmq hst hbel
          by_cases hql : q < l.length
          · have hil : (intsN l).length = l.length := by simp [intsN]
            obtain ⟨b2, off2, c2, hv, hbb, hcc⟩ := int_at HQ.out (show q < (intsN l).length by rw [hil]; exact hql)
            injection hv with e1 e2 e3
            subst e1
            have HZ := Lib.hid (HLM.out _ (List.getElem_mem hql))
            have HTK := Lib.hid (List.take_succ_eq_append_getElem hql)
            have hgi : (intsN l)[q]'(by rw [hil]; exact hql) = ((l[q] : Nat) : Int) := by simp [intsN]
            have q0 : wr.cell? ⟨b2, off2 + q, none⟩ = some (.int .i64 ((l[q] : Nat) : Int)) := (KW.out.cell (p := ⟨b2, off2 + q, none⟩) hbb).trans (by rw [hcc, hgi]; rfl)
            have hqi : (q : Int) < l.length := by omega
            have hq0 : (0 : Int) ≤ (q : Int) := by omega
            have HLQ := Lib.hid (fun z (hz : z ∈ l.take q) => HLM.out z (List.mem_of_mem_take hz))
            clear hcc e2 e3 hbb hgi hil
            generalize l[q] = z at *
            clear hql
            have hz := HZ.out
            obtain ⟨b', off', cap2', d4, k4, d5, k5, hv, _, _, n4, n5, l4, l5, hcell, s1', s2'⟩ := HR.out.at2 hz
            injection hv with e5 e6 e7
            injection e5 with e5
            injection e5 with e5 e8
            subst e5 e8
            have hzi : (z : Int) < h.length := by omega
            have hz0 : (0 : Int) ≤ (z : Int) := by omega
            have dd := Lib.hid (hcell wr KW.out)
            have y4 := dd.out.2.2.2.2.1
            have hla := (HS.out.2 _ (List.getElem_mem hz)).1
            have HNZ : Hid (nth h z = h[z]) := Lib.hid (nth_eq hz)
            have hsl := state_len HS.out (l.take q) HLQ.out
            have htl : (l.take q).length ≤ 100 := Nat.le_trans (List.length_take_le' _ _) hll
            have HUN := Lib.hid (runion_any u8 (.slice d4 (addO h[z]).length k4) (stateL h (l.take q)) (addO h[z]) wr HST.out (s1'.keep KW.out) (by omega))
            have HTS : Hid (stateL h (l.take (q + 1)) = ofL (stateL h (l.take q) ++ addO h[z])) := Lib.hid (by rw [HTK.out, stateL_snoc, HNZ.out])
            clear e6 e7 hcell s1' s2' dd hsl htl
            generalize h[z] = y at *
            clear hz
            go_wp2_with fail
            refine HUN.out.mono ?_
            rintro e w4 ⟨s4, rfl, hr4, hb4⟩
            have HR4 : Hid (Reads vs w4 s4 (stateL h (l.take (q + 1)))) := Lib.hid (by rw [HTS.out]; exact hr4)
            have KW4 := Lib.hid (KW.out.trans (hb4.mono KW.out.size))
            clear hr4 hb4 HUN q0 y4
            go_wp2
            go_roundg (l.length - (q + 1))
            case measure => have := HM2.out; omega
            case rel => exact ⟨q + 1, by omega, by go_num, HR4.out, KW4.out⟩
          · have hqq : l.take q = l := List.take_of_length_le (by omega)
            rw [hqq] at HST
            clear hqq
            have dd := Lib.hid (HN.out.1 wr KW.out)
            have y5 := dd.out.2.2.2.2.2
            have HSA := Lib.hid (rsame_any u8 (.slice a5 (seeO o).length c5) (stateL h l) (seeO o) wr HST.out (HN.out.2.2.keep KW.out))
            clear dd
            go_wp2_with fail
            refine HSA.out.mono ?_
            rintro e w4 ⟨rfl, hd⟩
            have KW4 := Lib.hid (KW.out.trans ((hd.below (B := wr.heap.size)).mono KW.out.size))
            clear hd HSA y5
            go_wp2
            go_ret
            exact ⟨ret_bool HF.out, KW4.out⟩
end Go.Proofs.Ytgaolgfjbgflgaa
