/-
  ChaincheckOrders: for all histories the law returns true, and what came in reads behind the call as before. No condition.
-/
import Derived.Test.YtjijlhjggpibjaaGreatUc
import Derived.Test.YtjijlhjggpibjaaGreatUb
import Derived.Test.YtjijlhjggpibjaaGreatHq
import Derived.Deep.DeepCutAuto
namespace Go.Proofs.YtjijlhjggpibjaaGreat.chaincheckOrders
open Go.ChangeShapes Go.WideShapes Go.ChangeAt Go.RowKit

set_option maxRecDepth 100000 in
set_option maxHeartbeats 8000000 in
theorem walk (v : Value) (h : List Opn) (W : World) (hr : ReadsO W v h ∧ ∀ x ∈ h, strOK x) : Calls Tryz.prog 3 #[v] W (BoolMade W true) := by
  have mixed : Tryz.prog.follows .mixedOrders = true := by kernel_rfl
  have HR := Lib.hid hr.1
  have HSO := Lib.hid hr.2
  obtain ⟨ao, cap, rfl, hl, hm, -, -⟩ := hr.1
  unfold maxLen at hm
  clear hr
  go_enter Tryz.func3, Tryz.ntmps3
  have KW := Lib.hid (Below.refl W.heap.size W)
  go_wp2_with fail
  refine (awake_any _).mono ?_
  rintro e w1 ⟨rfl, hb⟩
  replace HR := Lib.hid (HR.out.on hb)
  replace KW := Lib.hid (KW.out.trans (hb.mono KW.out.size))
  clear hb
  go_wp2_with fail
  refine (large_any _ h w1 HR.out).mono ?_
  rintro e ws ⟨r, rfl, rfl, hsm⟩
  cases r with
  | true =>
    go_wp2
    go_ret
    exact ⟨rfl, KW.out⟩
  | false =>
    have HS := Lib.hid ((hsm rfl).2.1 HSO.out)
    have HL8 := Lib.hid (hsm rfl)
    clear hsm HSO
    go_wp2_with fail
    refine (order_any _ h _ HR.out HS.out).mono ?_
    rintro e w2 ⟨v2, l2, rfl, hr2, hl2, hb⟩
    have HL2 := Lib.hid hl2
    obtain ⟨bb, hbb⟩ : ∃ b, b = decide ((resR h).1 = 0) := ⟨_, rfl⟩
    rw [← hbb]
    have HBB := Lib.hid hbb
    clear hbb hl2
    have H2 := Lib.hid hr2
    obtain ⟨a2, k2, rfl, _, _⟩ := slcI hr2
    clear hr2
    replace HR := Lib.hid (HR.out.on hb)
    replace KW := Lib.hid (KW.out.trans (hb.mono KW.out.size))
    clear hb
    go_wp2_with fail
    refine (rorder_any _ h _ HR.out HS.out).mono ?_
    rintro e w3 ⟨v3, l3, rfl, hr3, hl3, hb⟩
    rw [← HL2.out] at hl3
    rw [← HBB.out]
    subst hl3
    have H3 := Lib.hid hr3
    obtain ⟨a3, k3, rfl, _, _⟩ := slcI hr3
    clear hr3 HL2 HBB
    replace HR := Lib.hid (HR.out.on hb)
    replace KW := Lib.hid (KW.out.trans (hb.mono KW.out.size))
    replace H2 := Lib.hid (H2.out.keep hb)
    clear hb
    have HCA := Lib.hid (chain_any _ h _ HR.out HS.out)
    have HCB : Hid (∀ wq, Below w3.heap.size w3 wq → Calls Tryz.prog 9 #[.slice ao h.length cap] wq (ChainMade wq (chainR h))) := Lib.hid fun wq hq => rchain_any _ h _ (HR.out.on hq) HS.out
    have HCL : Hid (∀ C, chainR h = some C → C.length ≤ h.length) := Lib.hid fun C hc => by
      unfold chainR at hc
      split at hc
      · exact chainK_len hc
      · cases hc
    have hh12 := HL8.out.1
    generalize chainR h = q at *
    cases bb
    · cases q with
      | none =>
        go_wp2_with fail
        refine HCA.out.mono ?_
        rintro e w4 ⟨rfl, hb⟩
        replace HR := Lib.hid (HR.out.on hb)
        replace KW := Lib.hid (KW.out.trans (hb.mono KW.out.size))
        replace H2 := Lib.hid (H2.out.keep hb)
        replace H3 := Lib.hid (H3.out.keep hb)
        have HCB2 := Lib.hid (HCB.out _ hb)
        clear hb HCA HCB
        go_wp2_with fail
        refine HCB2.out.mono ?_
        rintro e w5 ⟨rfl, hb⟩
        replace HR := Lib.hid (HR.out.on hb)
        replace KW := Lib.hid (KW.out.trans (hb.mono KW.out.size))
        replace H2 := Lib.hid (H2.out.keep hb)
        replace H3 := Lib.hid (H3.out.keep hb)
        clear hb HCB2
        go_wp2_with fail
        refine (same_any _ _ _ _ _ H2.out H3.out).mono ?_
        rintro e w6 ⟨rfl, hb⟩
        rw [decide_eq_true rfl]
        replace HR := Lib.hid (HR.out.on hb)
        replace KW := Lib.hid (KW.out.trans (hb.mono KW.out.size))
        clear hb
        go_wp2
        refine wp_loop_rounds 1 ?_
        rw [rounds_succ]
        go_wp2
        go_ret
        exact ⟨rfl, KW.out⟩
      | some C =>
        have hcl := HCL.out C rfl
        go_wp2_with fail
        refine HCA.out.mono ?_
        rintro e w4 ⟨v4, rfl, hown⟩
        have hb := hown.1
        have HC := Lib.hid (SetsR.of hown)
        obtain ⟨ca, ck, rfl⟩ := hown.slc
        replace HR := Lib.hid (HR.out.on hb)
        replace KW := Lib.hid (KW.out.trans (hb.mono KW.out.size))
        replace H2 := Lib.hid (H2.out.keep hb)
        replace H3 := Lib.hid (H3.out.keep hb)
        have HCB2 := Lib.hid (HCB.out _ hb)
        clear hb hown HCA HCB
        go_wp2_with fail
        refine HCB2.out.mono ?_
        rintro e w5 ⟨v5, rfl, hown⟩
        have hb := hown.1
        have HE := Lib.hid (SetsR.of hown)
        obtain ⟨da, dk, rfl⟩ := hown.slc
        replace HR := Lib.hid (HR.out.on hb)
        replace KW := Lib.hid (KW.out.trans (hb.mono KW.out.size))
        replace H2 := Lib.hid (H2.out.keep hb)
        replace H3 := Lib.hid (H3.out.keep hb)
        replace HC := Lib.hid (HC.out.on hb)
        clear hb hown HCB2
        go_wp2_with fail
        refine (same_any _ _ _ _ _ H2.out H3.out).mono ?_
        rintro e w6 ⟨rfl, hb⟩
        rw [decide_eq_true rfl]
        replace HR := Lib.hid (HR.out.on hb)
        replace KW := Lib.hid (KW.out.trans (hb.mono KW.out.size))
        replace HC := Lib.hid (HC.out.on hb)
        replace HE := Lib.hid (HE.out.on hb)
        clear hb
        go_wp2
        go_loopg [11] C.length (fun m i wr => ∃ k : Nat, m + k = C.length ∧ i = .int .i64 ((k : Nat) : Int) ∧ Below w6.heap.size w6 wr)
        case atStart => exact ⟨0, by omega, rfl, Below.refl _ _⟩
        case round =>
          obtain ⟨k, hmk, rfl, hbel⟩ := hrel
          have HM := Lib.hid hmk
          have KB := Lib.hid hbel
          have hk : k ≤ C.length := by omega
          clear hmk hbel
          by_cases hkl : k < C.length
          · obtain ⟨aq, cq, hv, _, _, hcell⟩ := HC.out.on KB.out
            injection hv with e1 e2 e3
            obtain ⟨g, off, sa, sc, e4, hg, hcs, hrs⟩ := hcell k hkl
            rw [e4] at e1
            subst e1
            have HS1 := Lib.hid (And.intro hg (And.intro hcs hrs))
            clear e2 e3 e4 hcell hg hcs hrs
            obtain ⟨aq2, cq2, hv, _, _, hcell⟩ := HE.out.on KB.out
            injection hv with e1 e2 e3
            obtain ⟨g2, off2, ta, tc, e4, hg, hcs, hrs⟩ := hcell k hkl
            rw [e4] at e1
            subst e1
            have HS2 := Lib.hid (And.intro hg (And.intro hcs hrs))
            have hki : (k : Int) < C.length := by omega
            have hk0 : (0 : Int) ≤ (k : Int) := by omega
            clear e2 e3 e4 hcell hg hcs hrs
            generalize C[k] = S at *
            clear hkl
            go_upto_region 14 with fail
            refine region_left [.is (.slice (some ⟨g, off, none⟩) C.length ck), .is (.int .i64 (k : Int)), .is (.pointer (some ⟨g, off + k, none⟩)), .is (.slice sa S.length sc), .is (.slice (some ⟨g2, off2, none⟩) C.length dk), .is (.int .i64 (k : Int)), .is (.pointer (some ⟨g2, off2 + k, none⟩)), .is (.slice ta S.length tc), .is (.bool true), .is (.bool false)] (by kernel_rfl) rfl (by kernel_rfl) (by kernel_rfl) (.cons ?r1_0 (.cons ?r1_1 (.cons ?r1_2 (.cons ?r1_3 (.cons ?r1_4 (.cons ?r1_5 (.cons ?r1_6 (.cons ?r1_7 (.cons ?r1_8 (.cons ?r1_9 .nil)))))))))) ?r1_fin
            case r1_0 =>
              intro wq hbw st  K hK
              simp only [Act.put, List.setIfInBounds_toArray, List.set_cons_zero, List.set_cons_succ] at hK ⊢
              unfold opStep
              rw [if_pos (by rfl)]
              go_simp
              exact hK.out _ _ (Below.refl _ _) rfl _ rfl
            case r1_1 =>
              intro wq hbw st  K hK
              simp only [Act.put, List.setIfInBounds_toArray, List.set_cons_zero, List.set_cons_succ] at hK ⊢
              unfold opStep
              rw [if_pos (by rfl)]
              go_simp
              exact hK.out _ _ (Below.refl _ _) rfl _ rfl
            case r1_2 =>
              intro wq hbw st  K hK
              simp only [Act.put, List.setIfInBounds_toArray, List.set_cons_zero, List.set_cons_succ] at hK ⊢
              unfold opStep
              rw [if_pos (by rfl)]
              go_simp
              exact hK.out _ _ (Below.refl _ _) rfl _ rfl
            case r1_3 =>
              intro wq hbw st  K hK
              simp only [Act.put, List.setIfInBounds_toArray, List.set_cons_zero, List.set_cons_succ] at hK ⊢
              unfold opStep
              rw [if_pos (by rfl)]
              have cs := (hbw.cell (p := ⟨g, off + k, none⟩) HS1.out.1).trans HS1.out.2.1
              go_simp
              exact hK.out _ _ (Below.refl _ _) rfl _ rfl
            case r1_4 =>
              intro wq hbw st  K hK
              simp only [Act.put, List.setIfInBounds_toArray, List.set_cons_zero, List.set_cons_succ] at hK ⊢
              unfold opStep
              rw [if_pos (by rfl)]
              go_simp
              exact hK.out _ _ (Below.refl _ _) rfl _ rfl
            case r1_5 =>
              intro wq hbw st  K hK
              simp only [Act.put, List.setIfInBounds_toArray, List.set_cons_zero, List.set_cons_succ] at hK ⊢
              unfold opStep
              rw [if_pos (by rfl)]
              go_simp
              exact hK.out _ _ (Below.refl _ _) rfl _ rfl
            case r1_6 =>
              intro wq hbw st  K hK
              simp only [Act.put, List.setIfInBounds_toArray, List.set_cons_zero, List.set_cons_succ] at hK ⊢
              unfold opStep
              rw [if_pos (by rfl)]
              go_simp
              exact hK.out _ _ (Below.refl _ _) rfl _ rfl
            case r1_7 =>
              intro wq hbw st  K hK
              simp only [Act.put, List.setIfInBounds_toArray, List.set_cons_zero, List.set_cons_succ] at hK ⊢
              unfold opStep
              rw [if_pos (by rfl)]
              have cs := (hbw.cell (p := ⟨g2, off2 + k, none⟩) HS2.out.1).trans HS2.out.2.1
              go_simp
              exact hK.out _ _ (Below.refl _ _) rfl _ rfl
            case r1_8 =>
              intro wq hbw st  K hK
              simp only [Act.put, List.setIfInBounds_toArray, List.set_cons_zero, List.set_cons_succ] at hK ⊢
              unfold opStep
              rw [if_pos (by rfl)]
              go_simp
              have hpc := same02_any _ _ S S wq (HS1.out.2.2.keep hbw) (HS2.out.2.2.keep hbw)
              rw [decide_eq_true rfl] at hpc
              refine hpc.mono ?_
              rintro e wz ⟨rfl, hd⟩
              have hbz : Below wq.heap.size wq wz := hd.below
              go_simp
              exact hK.out _ _ hbz rfl _ rfl
            case r1_9 =>
              intro wq hbw st  K hK
              simp only [Act.put, List.setIfInBounds_toArray, List.set_cons_zero, List.set_cons_succ] at hK ⊢
              unfold opStep
              rw [if_pos (by rfl)]
              go_simp
              exact hK.out _ _ (Below.refl _ _) rfl _ rfl
            case r1_fin =>
              intro wq hbw
              try simp only [FinAll]
              simp only [Act.put, List.setIfInBounds_toArray, List.set_cons_zero, List.set_cons_succ]
              have K3 := Lib.hid (KB.out.trans (hbw.mono KB.out.size))
              clear hbw
              go_wp2
              go_roundg (C.length - (k + 1))
              case measure => have := HM.out; omega
              case rel => exact ⟨k + 1, by omega, by go_num, K3.out⟩
          · replace KW := Lib.hid (KW.out.trans (KB.out.mono KW.out.size))
            go_wp2
            go_ret
            exact ⟨rfl, KW.out⟩
    · cases q with
      | none =>
        go_wp2_with fail
        refine HCA.out.mono ?_
        rintro e w4 ⟨rfl, hb⟩
        replace HR := Lib.hid (HR.out.on hb)
        replace KW := Lib.hid (KW.out.trans (hb.mono KW.out.size))
        replace H2 := Lib.hid (H2.out.keep hb)
        replace H3 := Lib.hid (H3.out.keep hb)
        have HCB2 := Lib.hid (HCB.out _ hb)
        clear hb HCA HCB
        go_wp2_with fail
        refine HCB2.out.mono ?_
        rintro e w5 ⟨rfl, hb⟩
        replace HR := Lib.hid (HR.out.on hb)
        replace KW := Lib.hid (KW.out.trans (hb.mono KW.out.size))
        replace H2 := Lib.hid (H2.out.keep hb)
        replace H3 := Lib.hid (H3.out.keep hb)
        clear hb HCB2
        go_wp2_with fail
        refine (same_any _ _ _ _ _ H2.out H3.out).mono ?_
        rintro e w6 ⟨rfl, hb⟩
        rw [decide_eq_true rfl]
        replace HR := Lib.hid (HR.out.on hb)
        replace KW := Lib.hid (KW.out.trans (hb.mono KW.out.size))
        clear hb
        go_wp2
        refine wp_loop_rounds 1 ?_
        rw [rounds_succ]
        go_wp2
        go_ret
        exact ⟨rfl, KW.out⟩
      | some C =>
        have hcl := HCL.out C rfl
        go_wp2_with fail
        refine HCA.out.mono ?_
        rintro e w4 ⟨v4, rfl, hown⟩
        have hb := hown.1
        have HC := Lib.hid (SetsR.of hown)
        obtain ⟨ca, ck, rfl⟩ := hown.slc
        replace HR := Lib.hid (HR.out.on hb)
        replace KW := Lib.hid (KW.out.trans (hb.mono KW.out.size))
        replace H2 := Lib.hid (H2.out.keep hb)
        replace H3 := Lib.hid (H3.out.keep hb)
        have HCB2 := Lib.hid (HCB.out _ hb)
        clear hb hown HCA HCB
        go_wp2_with fail
        refine HCB2.out.mono ?_
        rintro e w5 ⟨v5, rfl, hown⟩
        have hb := hown.1
        have HE := Lib.hid (SetsR.of hown)
        obtain ⟨da, dk, rfl⟩ := hown.slc
        replace HR := Lib.hid (HR.out.on hb)
        replace KW := Lib.hid (KW.out.trans (hb.mono KW.out.size))
        replace H2 := Lib.hid (H2.out.keep hb)
        replace H3 := Lib.hid (H3.out.keep hb)
        replace HC := Lib.hid (HC.out.on hb)
        clear hb hown HCB2
        go_wp2_with fail
        refine (same_any _ _ _ _ _ H2.out H3.out).mono ?_
        rintro e w6 ⟨rfl, hb⟩
        rw [decide_eq_true rfl]
        replace HR := Lib.hid (HR.out.on hb)
        replace KW := Lib.hid (KW.out.trans (hb.mono KW.out.size))
        replace HC := Lib.hid (HC.out.on hb)
        replace HE := Lib.hid (HE.out.on hb)
        clear hb
        go_wp2
        go_loopg [11] C.length (fun m i wr => ∃ k : Nat, m + k = C.length ∧ i = .int .i64 ((k : Nat) : Int) ∧ Below w6.heap.size w6 wr)
        case atStart => exact ⟨0, by omega, rfl, Below.refl _ _⟩
        case round =>
          obtain ⟨k, hmk, rfl, hbel⟩ := hrel
          have HM := Lib.hid hmk
          have KB := Lib.hid hbel
          have hk : k ≤ C.length := by omega
          clear hmk hbel
          by_cases hkl : k < C.length
          · obtain ⟨aq, cq, hv, _, _, hcell⟩ := HC.out.on KB.out
            injection hv with e1 e2 e3
            obtain ⟨g, off, sa, sc, e4, hg, hcs, hrs⟩ := hcell k hkl
            rw [e4] at e1
            subst e1
            have HS1 := Lib.hid (And.intro hg (And.intro hcs hrs))
            clear e2 e3 e4 hcell hg hcs hrs
            obtain ⟨aq2, cq2, hv, _, _, hcell⟩ := HE.out.on KB.out
            injection hv with e1 e2 e3
            obtain ⟨g2, off2, ta, tc, e4, hg, hcs, hrs⟩ := hcell k hkl
            rw [e4] at e1
            subst e1
            have HS2 := Lib.hid (And.intro hg (And.intro hcs hrs))
            have hki : (k : Int) < C.length := by omega
            have hk0 : (0 : Int) ≤ (k : Int) := by omega
            clear e2 e3 e4 hcell hg hcs hrs
            generalize C[k] = S at *
            clear hkl
            go_upto_region 14 with fail
            refine region_left [.is (.slice (some ⟨g, off, none⟩) C.length ck), .is (.int .i64 (k : Int)), .is (.pointer (some ⟨g, off + k, none⟩)), .is (.slice sa S.length sc), .is (.slice (some ⟨g2, off2, none⟩) C.length dk), .is (.int .i64 (k : Int)), .is (.pointer (some ⟨g2, off2 + k, none⟩)), .is (.slice ta S.length tc), .is (.bool true), .is (.bool false)] (by kernel_rfl) rfl (by kernel_rfl) (by kernel_rfl) (.cons ?r2_0 (.cons ?r2_1 (.cons ?r2_2 (.cons ?r2_3 (.cons ?r2_4 (.cons ?r2_5 (.cons ?r2_6 (.cons ?r2_7 (.cons ?r2_8 (.cons ?r2_9 .nil)))))))))) ?r2_fin
            case r2_0 =>
              intro wq hbw st  K hK
              simp only [Act.put, List.setIfInBounds_toArray, List.set_cons_zero, List.set_cons_succ] at hK ⊢
              unfold opStep
              rw [if_pos (by rfl)]
              go_simp
              exact hK.out _ _ (Below.refl _ _) rfl _ rfl
            case r2_1 =>
              intro wq hbw st  K hK
              simp only [Act.put, List.setIfInBounds_toArray, List.set_cons_zero, List.set_cons_succ] at hK ⊢
              unfold opStep
              rw [if_pos (by rfl)]
              go_simp
              exact hK.out _ _ (Below.refl _ _) rfl _ rfl
            case r2_2 =>
              intro wq hbw st  K hK
              simp only [Act.put, List.setIfInBounds_toArray, List.set_cons_zero, List.set_cons_succ] at hK ⊢
              unfold opStep
              rw [if_pos (by rfl)]
              go_simp
              exact hK.out _ _ (Below.refl _ _) rfl _ rfl
            case r2_3 =>
              intro wq hbw st  K hK
              simp only [Act.put, List.setIfInBounds_toArray, List.set_cons_zero, List.set_cons_succ] at hK ⊢
              unfold opStep
              rw [if_pos (by rfl)]
              have cs := (hbw.cell (p := ⟨g, off + k, none⟩) HS1.out.1).trans HS1.out.2.1
              go_simp
              exact hK.out _ _ (Below.refl _ _) rfl _ rfl
            case r2_4 =>
              intro wq hbw st  K hK
              simp only [Act.put, List.setIfInBounds_toArray, List.set_cons_zero, List.set_cons_succ] at hK ⊢
              unfold opStep
              rw [if_pos (by rfl)]
              go_simp
              exact hK.out _ _ (Below.refl _ _) rfl _ rfl
            case r2_5 =>
              intro wq hbw st  K hK
              simp only [Act.put, List.setIfInBounds_toArray, List.set_cons_zero, List.set_cons_succ] at hK ⊢
              unfold opStep
              rw [if_pos (by rfl)]
              go_simp
              exact hK.out _ _ (Below.refl _ _) rfl _ rfl
            case r2_6 =>
              intro wq hbw st  K hK
              simp only [Act.put, List.setIfInBounds_toArray, List.set_cons_zero, List.set_cons_succ] at hK ⊢
              unfold opStep
              rw [if_pos (by rfl)]
              go_simp
              exact hK.out _ _ (Below.refl _ _) rfl _ rfl
            case r2_7 =>
              intro wq hbw st  K hK
              simp only [Act.put, List.setIfInBounds_toArray, List.set_cons_zero, List.set_cons_succ] at hK ⊢
              unfold opStep
              rw [if_pos (by rfl)]
              have cs := (hbw.cell (p := ⟨g2, off2 + k, none⟩) HS2.out.1).trans HS2.out.2.1
              go_simp
              exact hK.out _ _ (Below.refl _ _) rfl _ rfl
            case r2_8 =>
              intro wq hbw st  K hK
              simp only [Act.put, List.setIfInBounds_toArray, List.set_cons_zero, List.set_cons_succ] at hK ⊢
              unfold opStep
              rw [if_pos (by rfl)]
              go_simp
              have hpc := same02_any _ _ S S wq (HS1.out.2.2.keep hbw) (HS2.out.2.2.keep hbw)
              rw [decide_eq_true rfl] at hpc
              refine hpc.mono ?_
              rintro e wz ⟨rfl, hd⟩
              have hbz : Below wq.heap.size wq wz := hd.below
              go_simp
              exact hK.out _ _ hbz rfl _ rfl
            case r2_9 =>
              intro wq hbw st  K hK
              simp only [Act.put, List.setIfInBounds_toArray, List.set_cons_zero, List.set_cons_succ] at hK ⊢
              unfold opStep
              rw [if_pos (by rfl)]
              go_simp
              exact hK.out _ _ (Below.refl _ _) rfl _ rfl
            case r2_fin =>
              intro wq hbw
              try simp only [FinAll]
              simp only [Act.put, List.setIfInBounds_toArray, List.set_cons_zero, List.set_cons_succ]
              have K3 := Lib.hid (KB.out.trans (hbw.mono KB.out.size))
              clear hbw
              go_wp2
              go_roundg (C.length - (k + 1))
              case measure => have := HM.out; omega
              case rel => exact ⟨k + 1, by omega, by go_num, K3.out⟩
          · replace KW := Lib.hid (KW.out.trans (KB.out.mono KW.out.size))
            go_wp2
            go_ret
            exact ⟨rfl, KW.out⟩

set_option maxRecDepth 100000 in
theorem lifted (os : Os) (started : os.Started) (H : Type) (enc : TypeId × Value → H) :
    ReturnsInHanded {} Tryz.checked os 3 .any (Rows.chaincheckOrdersSpec.pre6 enc Tryz.prog Tryz.f3 Rows.chaincheckOrdersRow.domain false) (Rows.chaincheckOrdersSpec.post enc Tryz.prog Tryz.f3 false true false false) := by
  refine returnsInHanded_of_change (C := Tryz.checked) own started (by kernel_rfl) Tryz.func3
    (ChangeSpec.witness6 (enc := enc) (C := Tryz.checked) false ⟨#[], #[.slice none 0 0], []⟩ 8 (by kernel_rfl) (by kernel_rfl) (by kernel_rfl) (by kernel_rfl)) ?_
  intro W base args ds gs before hval0 hW hcnd _
  have hval : ∀ (j : Nat) t v, Tryz.f3.params[j]? = some t → args[j]? = some v → Value.okWide Tryz.prog W .any base t v := hval0
  have hW' := hW
  obtain ⟨p, q, hA0, hV, rfl, hfz, hnd⟩ := hW
  have hA : DataW.TrodAll enc Tryz.prog W 0 (fun _ => true) true Tryz.f3.params.toList args.toList ds p := hA0
  rw [Tryz.params3] at hA hval
  obtain ⟨v0, vs0, d0, ds0, p0, q0, hargs, rfl, rfl, t0, r0⟩ := trodAll_cons hA
  obtain ⟨rfl, rfl, rfl⟩ := trodAll_nil r0
  obtain rfl : args = #[v0] := by cases args; simp_all
  obtain ⟨rfl, rfl⟩ := trodVars_none hV
  obtain ⟨x0, h0⟩ := open_ops (hval 0 22 v0 rfl rfl) t0
  refine (walk v0 x0 W h0).mono fun e W' ⟨he, hb⟩ => ?_
  subst he
  exact ⟨_, rfl, law_post laidOut rfl (fun _ _ => rfl) (by kernel_rfl) Tryz.underlying4 (by rw [Tryz.params3]; exact fun t ht => by simp at ht; rcases ht with  rfl ; all_goals exact ⟨by kernel_rfl, of_decide_eq_true (by kernel_rfl)⟩) hW' hb⟩

theorem over : Rows.chaincheckOrdersRow.holds Tryz.pinned (OpenSpec.ofChange Rows.chaincheckOrdersSpec) :=
  OpenClaim.holds_of_wide 3 Tryz.f3 rfl rfl rfl rfl rfl rfl rfl ⟨rfl, rfl, rfl, rfl, rfl⟩ rfl rfl rfl rfl rfl (by kernel_rfl) Tryz.func3 (by kernel_rfl)
    (of_decide_eq_true (by kernel_rfl)) (by unfold Func.isWrapper; first | (rw [if_pos (by decide +kernel)]; kernel_rfl) | (rw [if_neg (by decide +kernel)]; exact ⟨rfl, rfl⟩))
    (fun os started H enc _ => lifted os started H enc)

theorem proved : Rows.ChaincheckOrdersSaid := over
end Go.Proofs.YtjijlhjggpibjaaGreat.chaincheckOrders
