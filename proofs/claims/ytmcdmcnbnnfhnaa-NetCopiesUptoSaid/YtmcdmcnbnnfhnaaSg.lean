/-
  Chapter 28: equal lists of certificates are told equal (the reference).
-/
import Derived.Test.YtmcdmcnbnnfhnaaSf
namespace Go.Proofs.Ytmcdmcnbnnfhnaa
open Go.RowKit

theorem claim_len (c : ClaimM) : (claimD c).length = 8 := rfl
theorem claim_size : (Try.prog.info? 85).map (·.size) = some 8 := by kernel_rfl
theorem cert_split {P : Nat → Prop} {w : World} {cs : List Value} {x : CertM} (h : CellsD P w cs (certD x)) : ∃ c8 s t, cs = c8 ++ [.slice s x.acks.length t] ∧ c8.length = 8 ∧ CellsD P w c8 (claimD x.claim) ∧ ReadsD P w (.slice s x.acks.length t) (acksD x.acks) := by
  obtain ⟨v0, cs, rfl, r0, h⟩ := h.cons
  obtain ⟨v1, cs, rfl, r1, h⟩ := h.cons
  obtain ⟨v2, cs, rfl, r2, h⟩ := h.cons
  obtain ⟨v3, cs, rfl, r3, h⟩ := h.cons
  obtain ⟨v4, cs, rfl, r4, h⟩ := h.cons
  obtain ⟨v5, cs, rfl, r5, h⟩ := h.cons
  obtain ⟨v6, cs, rfl, r6, h⟩ := h.cons
  obtain ⟨v7, cs, rfl, r7, h⟩ := h.cons
  obtain ⟨v8, cs, rfl, r8, h⟩ := h.cons
  have hn := h.nil
  subst hn
  obtain ⟨s, t, rfl, -⟩ := ReadsD.slcM (f := ackD) r8
  exact ⟨[v0, v1, v2, v3, v4, v5, v6, v7], s, t, rfl, rfl, .mk r0 (.mk r1 (.mk r2 (.mk r3 (.mk r4 (.mk r5 (.mk r6 (.mk r7 .empty))))))), r8⟩
set_option maxRecDepth 100000 in
set_option maxHeartbeats 4000000 in
theorem same_certificates {P P' : Nat → Prop} (v u : Value) (a : List CertM) (w : World) (hv : ReadsD P w v (certsD a)) (hu : ReadsD P' w u (certsD a)) : Calls Try.prog 69 #[v, u] w (BoolMade w true) := by
  obtain ⟨s1, k1, rfl, hl1, hm1, -, hL1⟩ := ReadsD.slcM (f := certD) hv
  obtain ⟨s2, k2, rfl, hl2, hm2, -, hL2⟩ := ReadsD.slcM (f := certD) hu
  unfold maxLen at hm1 hm2
  have HV := Lib.hid (And.intro hv hu)
  clear hv hu
  go_enter Try.func69, Try.ntmps69
  go_wp2
  go_loopg [5] a.length (fun m i wr => ∃ k : Nat, m + k = a.length ∧ i = .int .i64 k ∧ Below w.heap.size w wr)
  case atStart => exact ⟨0, by omega, rfl, Below.refl _ _⟩
  case round =>
    rename World => w1
    obtain ⟨k, hmk, rfl, hb⟩ := hrel
    have HM := Lib.hid hmk
    have HB := Lib.hid hb
    have hk : k ≤ a.length := by omega
    have hk0 : (0 : Int) ≤ (k : Int) := by omega
    clear hmk hb
    by_cases hlt : k < a.length
    · have hki : (k : Int) < a.length := by omega
      obtain ⟨b1, o1, c1, cs1, e1, -, -, hn1, -, g1, q1⟩ := ReadsD.item (f := certD) HV.out.1 hlt
      obtain ⟨b2, o2, c2, cs2, e2, -, -, hn2, -, g2, q2⟩ := ReadsD.item (f := certD) HV.out.2 hlt
      injection e1 with e1 e3 e4
      injection e2 with e2 e5 e6
      subst e1 e2
      clear e3 e4 e5 e6
      generalize a[k] = x at *
      obtain ⟨x1, x2, x3, rfl, hx8, qx, rx⟩ := cert_split q1
      obtain ⟨y1, y2, y3, rfl, hy8, qy, ry⟩ := cert_split q2
      have HC1 := Lib.hid (fun (wq : World) (hq : Below w.heap.size w wq) => And.intro (fun i u (hu : x1[i]? = some u) => g1 wq hq i u (by rw [List.getElem?_append_left (List.getElem?_eq_some_iff.1 hu).1]; exact hu)) (show wq.cell? ⟨b1, o1 + k * 9 + 8, none⟩ = some (.slice x2 x.acks.length x3) from g1 wq hq 8 _ (by rw [List.getElem?_append_right (by omega), hx8]; rfl)))
      have HC2 := Lib.hid (fun (wq : World) (hq : Below w.heap.size w wq) => And.intro (fun i u (hu : y1[i]? = some u) => g2 wq hq i u (by rw [List.getElem?_append_left (List.getElem?_eq_some_iff.1 hu).1]; exact hu)) (show wq.cell? ⟨b2, o2 + k * 9 + 8, none⟩ = some (.slice y2 x.acks.length y3) from g2 wq hq 8 _ (by rw [List.getElem?_append_right (by omega), hy8]; rfl)))
      have HLT := Lib.hid hlt
      have HQ := Lib.hid (And.intro (And.intro qx rx) (And.intro qy ry))
      have HL := Lib.hid (And.intro hx8 hy8)
      clear hlt g1 g2 q1 q2 hn1 hn2 qx rx qy ry hx8 hy8
      go_wp2_with fail
      refine region_left [.is (.slice (some ⟨b1, o1, none⟩) a.length k1), .is (.int .i64 (k : Int)), .is (.pointer (some ⟨b1, o1 + k * 9, none⟩)), .is (.pointer (some ⟨b1, o1 + k * 9, none⟩)), .is (.agg x1.toArray), .is (.slice (some ⟨b2, o2, none⟩) a.length k2), .is (.int .i64 (k : Int)), .is (.pointer (some ⟨b2, o2 + k * 9, none⟩)), .is (.pointer (some ⟨b2, o2 + k * 9, none⟩)), .is (.agg y1.toArray), .is (.bool true), .is (.bool false), .is (.bool false), .is (.slice (some ⟨b1, o1, none⟩) a.length k1), .is (.int .i64 (k : Int)), .is (.pointer (some ⟨b1, o1 + k * 9, none⟩)), .is (.pointer (some ⟨b1, o1 + k * 9 + 8, none⟩)), .is (.slice x2 x.acks.length x3), .is (.slice (some ⟨b2, o2, none⟩) a.length k2), .is (.int .i64 (k : Int)), .is (.pointer (some ⟨b2, o2 + k * 9, none⟩)), .is (.pointer (some ⟨b2, o2 + k * 9 + 8, none⟩)), .is (.slice y2 x.acks.length y3), .is (.bool true), .is (.bool false), .is (.bool false)] (by kernel_rfl) rfl (by kernel_rfl) (by kernel_rfl) (.cons ?c_0 (.cons ?c_1 (.cons ?c_2 (.cons ?c_3 (.cons ?c_4 (.cons ?c_5 (.cons ?c_6 (.cons ?c_7 (.cons ?c_8 (.cons ?c_9 (.cons ?c_10 (.cons ?c_11 (.cons ?c_12 (.cons ?c_13 (.cons ?c_14 (.cons ?c_15 (.cons ?c_16 (.cons ?c_17 (.cons ?c_18 (.cons ?c_19 (.cons ?c_20 (.cons ?c_21 (.cons ?c_22 (.cons ?c_23 (.cons ?c_24 (.cons ?c_25 .nil)))))))))))))))))))))))))) ?c_fin
      case c_0 =>
        intro wq hbw st  K hK
        have KQ := HB.out.trans (hbw.mono HB.out.size)
        simp only [Act.put, List.setIfInBounds_toArray, List.set_cons_zero, List.set_cons_succ] at hK ⊢
        unfold opStep
        rw [if_pos (by rfl)]
        go_simp
        exact hK.out _ _ (Below.refl _ _) rfl _ rfl
      case c_1 =>
        intro wq hbw st  K hK
        have KQ := HB.out.trans (hbw.mono HB.out.size)
        simp only [Act.put, List.setIfInBounds_toArray, List.set_cons_zero, List.set_cons_succ] at hK ⊢
        unfold opStep
        rw [if_pos (by rfl)]
        go_simp
        exact hK.out _ _ (Below.refl _ _) rfl _ rfl
      case c_2 =>
        intro wq hbw st  K hK
        have KQ := HB.out.trans (hbw.mono HB.out.size)
        simp only [Act.put, List.setIfInBounds_toArray, List.set_cons_zero, List.set_cons_succ] at hK ⊢
        unfold opStep
        rw [if_pos (by rfl)]
        go_simp
        exact hK.out _ _ (Below.refl _ _) rfl _ rfl
      case c_3 =>
        intro wq hbw st  K hK
        have KQ := HB.out.trans (hbw.mono HB.out.size)
        simp only [Act.put, List.setIfInBounds_toArray, List.set_cons_zero, List.set_cons_succ] at hK ⊢
        unfold opStep
        rw [if_pos (by rfl)]
        go_simp
        exact hK.out _ _ (Below.refl _ _) rfl _ rfl
      case c_4 =>
        intro wq hbw st  K hK
        have KQ := HB.out.trans (hbw.mono HB.out.size)
        simp only [Act.put, List.setIfInBounds_toArray, List.set_cons_zero, List.set_cons_succ] at hK ⊢
        unfold opStep
        rw [if_pos (by rfl)]
        refine wp_load_mid 85 (.tmp 20) (by rfl) b1 (o1 + k * 9) (by rfl) x1 _ (HC1.out wq KQ).1 Try.underlying85 (by rfl) (by rw [HL.out.1]; kernel_rfl) ?_
        exact hK.out _ _ (Below.refl _ _) rfl _ rfl
      case c_5 =>
        intro wq hbw st  K hK
        have KQ := HB.out.trans (hbw.mono HB.out.size)
        simp only [Act.put, List.setIfInBounds_toArray, List.set_cons_zero, List.set_cons_succ] at hK ⊢
        unfold opStep
        rw [if_pos (by rfl)]
        go_simp
        exact hK.out _ _ (Below.refl _ _) rfl _ rfl
      case c_6 =>
        intro wq hbw st  K hK
        have KQ := HB.out.trans (hbw.mono HB.out.size)
        simp only [Act.put, List.setIfInBounds_toArray, List.set_cons_zero, List.set_cons_succ] at hK ⊢
        unfold opStep
        rw [if_pos (by rfl)]
        go_simp
        exact hK.out _ _ (Below.refl _ _) rfl _ rfl
      case c_7 =>
        intro wq hbw st  K hK
        have KQ := HB.out.trans (hbw.mono HB.out.size)
        simp only [Act.put, List.setIfInBounds_toArray, List.set_cons_zero, List.set_cons_succ] at hK ⊢
        unfold opStep
        rw [if_pos (by rfl)]
        go_simp
        exact hK.out _ _ (Below.refl _ _) rfl _ rfl
      case c_8 =>
        intro wq hbw st  K hK
        have KQ := HB.out.trans (hbw.mono HB.out.size)
        simp only [Act.put, List.setIfInBounds_toArray, List.set_cons_zero, List.set_cons_succ] at hK ⊢
        unfold opStep
        rw [if_pos (by rfl)]
        go_simp
        exact hK.out _ _ (Below.refl _ _) rfl _ rfl
      case c_9 =>
        intro wq hbw st  K hK
        have KQ := HB.out.trans (hbw.mono HB.out.size)
        simp only [Act.put, List.setIfInBounds_toArray, List.set_cons_zero, List.set_cons_succ] at hK ⊢
        unfold opStep
        rw [if_pos (by rfl)]
        refine wp_load_mid 85 (.tmp 25) (by rfl) b2 (o2 + k * 9) (by rfl) y1 _ (HC2.out wq KQ).1 Try.underlying85 (by rfl) (by rw [HL.out.2]; kernel_rfl) ?_
        exact hK.out _ _ (Below.refl _ _) rfl _ rfl
      case c_10 =>
        intro wq hbw st  K hK
        have KQ := HB.out.trans (hbw.mono HB.out.size)
        simp only [Act.put, List.setIfInBounds_toArray, List.set_cons_zero, List.set_cons_succ] at hK ⊢
        unfold opStep
        rw [if_pos (by rfl)]
        go_simp
        have hpc := same_claim x1 y1 x.claim wq (HQ.out.1.1.on KQ) (HQ.out.2.1.on KQ)
        refine hpc.mono ?_
        rintro e wz ⟨rfl, hbz⟩
        go_simp
        exact hK.out _ _ hbz rfl _ rfl
      case c_11 =>
        intro wq hbw st  K hK
        have KQ := HB.out.trans (hbw.mono HB.out.size)
        simp only [Act.put, List.setIfInBounds_toArray, List.set_cons_zero, List.set_cons_succ] at hK ⊢
        unfold opStep
        rw [if_pos (by rfl)]
        go_simp
        exact hK.out _ _ (Below.refl _ _) rfl _ rfl
      case c_12 =>
        intro wq hbw st  K hK
        have KQ := HB.out.trans (hbw.mono HB.out.size)
        simp only [Act.put, List.setIfInBounds_toArray, List.set_cons_zero, List.set_cons_succ] at hK ⊢
        unfold opStep
        rw [if_pos (by rfl)]
        go_simp
        exact hK.out _ _ (Below.refl _ _) rfl _ rfl
      case c_13 =>
        intro wq hbw st  K hK
        have KQ := HB.out.trans (hbw.mono HB.out.size)
        simp only [Act.put, List.setIfInBounds_toArray, List.set_cons_zero, List.set_cons_succ] at hK ⊢
        unfold opStep
        rw [if_pos (by rfl)]
        go_simp
        exact hK.out _ _ (Below.refl _ _) rfl _ rfl
      case c_14 =>
        intro wq hbw st  K hK
        have KQ := HB.out.trans (hbw.mono HB.out.size)
        simp only [Act.put, List.setIfInBounds_toArray, List.set_cons_zero, List.set_cons_succ] at hK ⊢
        unfold opStep
        rw [if_pos (by rfl)]
        go_simp
        exact hK.out _ _ (Below.refl _ _) rfl _ rfl
      case c_15 =>
        intro wq hbw st  K hK
        have KQ := HB.out.trans (hbw.mono HB.out.size)
        simp only [Act.put, List.setIfInBounds_toArray, List.set_cons_zero, List.set_cons_succ] at hK ⊢
        unfold opStep
        rw [if_pos (by rfl)]
        go_simp
        exact hK.out _ _ (Below.refl _ _) rfl _ rfl
      case c_16 =>
        intro wq hbw st  K hK
        have KQ := HB.out.trans (hbw.mono HB.out.size)
        simp only [Act.put, List.setIfInBounds_toArray, List.set_cons_zero, List.set_cons_succ] at hK ⊢
        unfold opStep
        rw [if_pos (by rfl)]
        go_simp
        exact hK.out _ _ (Below.refl _ _) rfl _ rfl
      case c_17 =>
        intro wq hbw st  K hK
        have KQ := HB.out.trans (hbw.mono HB.out.size)
        simp only [Act.put, List.setIfInBounds_toArray, List.set_cons_zero, List.set_cons_succ] at hK ⊢
        unfold opStep
        rw [if_pos (by rfl)]
        have d0 := (HC1.out wq KQ).2
        go_simp
        exact hK.out _ _ (Below.refl _ _) rfl _ rfl
      case c_18 =>
        intro wq hbw st  K hK
        have KQ := HB.out.trans (hbw.mono HB.out.size)
        simp only [Act.put, List.setIfInBounds_toArray, List.set_cons_zero, List.set_cons_succ] at hK ⊢
        unfold opStep
        rw [if_pos (by rfl)]
        go_simp
        exact hK.out _ _ (Below.refl _ _) rfl _ rfl
      case c_19 =>
        intro wq hbw st  K hK
        have KQ := HB.out.trans (hbw.mono HB.out.size)
        simp only [Act.put, List.setIfInBounds_toArray, List.set_cons_zero, List.set_cons_succ] at hK ⊢
        unfold opStep
        rw [if_pos (by rfl)]
        go_simp
        exact hK.out _ _ (Below.refl _ _) rfl _ rfl
      case c_20 =>
        intro wq hbw st  K hK
        have KQ := HB.out.trans (hbw.mono HB.out.size)
        simp only [Act.put, List.setIfInBounds_toArray, List.set_cons_zero, List.set_cons_succ] at hK ⊢
        unfold opStep
        rw [if_pos (by rfl)]
        go_simp
        exact hK.out _ _ (Below.refl _ _) rfl _ rfl
      case c_21 =>
        intro wq hbw st  K hK
        have KQ := HB.out.trans (hbw.mono HB.out.size)
        simp only [Act.put, List.setIfInBounds_toArray, List.set_cons_zero, List.set_cons_succ] at hK ⊢
        unfold opStep
        rw [if_pos (by rfl)]
        go_simp
        exact hK.out _ _ (Below.refl _ _) rfl _ rfl
      case c_22 =>
        intro wq hbw st  K hK
        have KQ := HB.out.trans (hbw.mono HB.out.size)
        simp only [Act.put, List.setIfInBounds_toArray, List.set_cons_zero, List.set_cons_succ] at hK ⊢
        unfold opStep
        rw [if_pos (by rfl)]
        have d0 := (HC2.out wq KQ).2
        go_simp
        exact hK.out _ _ (Below.refl _ _) rfl _ rfl
      case c_23 =>
        intro wq hbw st  K hK
        have KQ := HB.out.trans (hbw.mono HB.out.size)
        simp only [Act.put, List.setIfInBounds_toArray, List.set_cons_zero, List.set_cons_succ] at hK ⊢
        unfold opStep
        rw [if_pos (by rfl)]
        go_simp
        have hpc := same_acks _ _ x.acks x.acks wq (HQ.out.1.2.on KQ) (HQ.out.2.2.on KQ)
        rw [eqb_same] at hpc
        refine hpc.mono ?_
        rintro e wz ⟨rfl, hbz⟩
        go_simp
        exact hK.out _ _ hbz rfl _ rfl
      case c_24 =>
        intro wq hbw st  K hK
        have KQ := HB.out.trans (hbw.mono HB.out.size)
        simp only [Act.put, List.setIfInBounds_toArray, List.set_cons_zero, List.set_cons_succ] at hK ⊢
        unfold opStep
        rw [if_pos (by rfl)]
        go_simp
        exact hK.out _ _ (Below.refl _ _) rfl _ rfl
      case c_25 =>
        intro wq hbw st  K hK
        have KQ := HB.out.trans (hbw.mono HB.out.size)
        simp only [Act.put, List.setIfInBounds_toArray, List.set_cons_zero, List.set_cons_succ] at hK ⊢
        unfold opStep
        rw [if_pos (by rfl)]
        go_simp
        exact hK.out _ _ (Below.refl _ _) rfl _ rfl
      case c_fin =>
        intro wq hbw
        try simp only [FinAll]
        simp only [Act.put, List.setIfInBounds_toArray, List.set_cons_zero, List.set_cons_succ]
        have KQ := Lib.hid (HB.out.trans (hbw.mono HB.out.size))
        clear hbw
        go_wp2
        go_roundg (a.length - (k + 1))
        case measure => have := HM.out; have := HLT.out; omega
        case rel => exact ⟨k + 1, by have := HLT.out; omega, by go_num, KQ.out⟩
    · have hki : ¬ (k : Int) < a.length := by omega
      go_wp2
      go_ret
      exact ⟨rfl, HB.out⟩
end Go.Proofs.Ytmcdmcnbnnfhnaa
