/-
  Chapter 54: the reference's Small.
-/
import Derived.Test.YtnpfalloelmflaaHc
namespace Go.Proofs.Ytnpfalloelmflaa
open Go.RowKit

def okO (o : Opn) : Prop := (addO o).length ≤ 10 ∧ (seeO o).length ≤ 30 ∧ (∀ j (h : j < (addO o).length), (addO o)[j].length ≤ 100) ∧ ∀ j (h : j < (seeO o).length), (seeO o)[j].length ≤ 100
noncomputable def smallB (h : List Opn) (most : Int) : Bool := @decide ((h.length : Int) ≤ most ∧ ∀ j (hj : j < h.length), okO h[j]) (Classical.propDecidable _)
theorem small_no {h : List Opn} {most : Int} (hn : ¬ ((h.length : Int) ≤ most ∧ ∀ j (hj : j < h.length), okO h[j])) : smallB h most = false := @decide_eq_false _ (Classical.propDecidable _) hn
theorem small_yes {h : List Opn} {most : Int} (hl : (h.length : Int) ≤ most) (ho : ∀ j (hj : j < h.length), okO h[j]) : smallB h most = true := @decide_eq_true _ (Classical.propDecidable _) ⟨hl, ho⟩
theorem small_of {h : List Opn} {most : Int} (hs : smallB h most = true) : (h.length : Int) ≤ most ∧ ∀ j (hj : j < h.length), okO h[j] := by
  unfold smallB at hs
  exact @of_decide_eq_true _ (Classical.propDecidable _) hs
theorem SmallH.of {h : List Opn} {most : Int} (hm : most ≤ 1000) (hs : smallB h most = true) : SmallH h := by
  obtain ⟨h1, h2⟩ := small_of hs
  refine ⟨by omega, fun o ho => ?_⟩
  obtain ⟨j, hj, rfl⟩ := List.getElem_of_mem ho
  obtain ⟨a, b, c, d⟩ := h2 j hj
  refine ⟨by omega, by omega, fun s hs => ?_, fun s hs => ?_⟩
  · obtain ⟨i, hi, rfl⟩ := List.getElem_of_mem hs
    have := c i hi; omega
  · obtain ⟨i, hi, rfl⟩ := List.getElem_of_mem hs
    have := d i hi; omega

set_option maxRecDepth 100000 in
set_option maxHeartbeats 4000000 in
theorem rsmall_any (v : Value) (h : List Opn) (most : Int) (W : World) (hr : ReadsO W v h) : Calls Try.prog 11 #[v, .int .i64 most] W (fun e w' => e = .returned (.bool (smallB h most)) ∧ w' = W) := by
  have HR := Lib.hid hr
  obtain ⟨ao, cap, rfl, hl, hm, -, -⟩ := hr
  unfold maxLen at hm
  have HNO := Lib.hid (@small_no h most)
  have HYES := Lib.hid (@small_yes h most)
  generalize smallB h most = res at *
  go_enter Try.func11, Try.ntmps11
  by_cases hlen : (h.length : Int) ≤ most
  · have hlen2 : ¬ most < (h.length : Int) := by omega
    have HLEN := Lib.hid hlen
    clear hlen
    go_wp2
    go_loop [5] (fun i => ∃ k : Nat, k ≤ h.length ∧ i = .int .i64 k ∧ ∀ j (hj : j < h.length), j < k → okO h[j]) (fun i => h.length - (intOf i).toNat)
    case atStart => exact ⟨0, by omega, rfl, fun j _ h => by omega⟩
    case round =>
      obtain ⟨k, hk, rfl, hall⟩ := hrel
      have HALL := Lib.hid hall
      clear hall
      by_cases hlt : k < h.length
      · obtain ⟨b, off, cap1, a4, c4, a5, c5, hv, _, _, hm4, hm5, hl4, hl5, hcell, r1, r2⟩ := HR.out.at2 hlt
        injection hv with e1 e2 e3
        subst e1
        have hki : (k : Int) < h.length := by omega
        have hk0 : (0 : Int) ≤ (k : Int) := by omega
        have HN := Lib.hid (And.intro r1 r2)
        have dd := Lib.hid (hcell W (Below.refl _ _))
        have d4 := dd.out.2.2.2.2.1
        have d5 := dd.out.2.2.2.2.2
        have HB : Hid (¬ okO h[k] → res = false) := Lib.hid fun h1 => HNO.out fun h2 => h1 (h2.2 k hlt)
        have HG : Hid (okO h[k] → ∀ j (hj : j < h.length), j < k + 1 → okO h[j]) := Lib.hid fun h1 j hj hjk => by
          rcases Nat.lt_or_ge j k with h2 | h2
          · exact HALL.out j hj h2
          · have : j = k := by omega
            subst this; exact h1
        clear e2 e3 hcell r1 r2 dd
        generalize h[k] = x at *
        by_cases n4 : 10 < (addO x).length
        · have n4i : (10 : Int) < (addO x).length := by omega
          have HE := Lib.hid (HB.out fun h1 => by have := h1.1; omega)
          go_wp2
          go_ret
          exact ⟨ret_bool HE.out.symm, rfl⟩
        · have n4i : ¬ (10 : Int) < (addO x).length := by omega
          by_cases n5 : 30 < (seeO x).length
          · have n5i : (30 : Int) < (seeO x).length := by omega
            have HE := Lib.hid (HB.out fun h1 => by have := h1.2.1; omega)
            go_wp2
            go_ret
            exact ⟨ret_bool HE.out.symm, rfl⟩
          · have n5i : ¬ (30 : Int) < (seeO x).length := by omega
            go_wp2
            go_loop [6] (fun i => ∃ q : Nat, q ≤ (addO x).length ∧ i = .int .i64 q ∧ ∀ j (hj : j < (addO x).length), j < q → (addO x)[j].length ≤ 100) (fun i => (addO x).length - (intOf i).toNat)
            case atStart => exact ⟨0, by omega, rfl, fun j _ h => by omega⟩
            case round =>
              obtain ⟨q, hq, rfl, hall⟩ := hrel
              have HQ := Lib.hid hall
              clear hall
              by_cases hqlt : q < (addO x).length
              · obtain ⟨b2, off2, cap2, hv2, _, hc2⟩ := str_at HN.out.1 hqlt
                injection hv2 with e1 e2 e3
                subst e1
                have hqi : (q : Int) < (addO x).length := by omega
                have hq0 : (0 : Int) ≤ (q : Int) := by omega
                have HBQ : Hid (¬ (addO x)[q].length ≤ 100 → res = false) := Lib.hid fun h1 => HB.out fun h2 => h1 (h2.2.2.1 q hqlt)
                have HGQ : Hid ((addO x)[q].length ≤ 100 → ∀ j (hj : j < (addO x).length), j < q + 1 → (addO x)[j].length ≤ 100) := Lib.hid fun h1 j hj hjk => by
                  rcases Nat.lt_or_ge j q with h2 | h2
                  · exact HQ.out j hj h2
                  · have : j = q := by omega
                    subst this; exact h1
                clear e2 e3
                generalize (addO x)[q] = s at *
                unfold vs at hc2
                by_cases hs : s.length ≤ 100
                · have hs1 : ¬ (100 : Int) < ((toB s).size : Int) := by rw [size_toB]; omega
                  have HS := Lib.hid hs
                  clear hs
                  go_wp2
                  go_round
                  case rel => exact ⟨q + 1, by omega, by go_num, HGQ.out HS.out⟩
                  case measure => simp [intOf]; omega
                · have hs1 : (100 : Int) < ((toB s).size : Int) := by rw [size_toB]; omega
                  have HE := Lib.hid (HBQ.out hs)
                  clear hs
                  go_wp2
                  go_ret
                  exact ⟨ret_bool HE.out.symm, rfl⟩
              · have hqe : q = (addO x).length := by omega
                subst hqe
                go_wp2
                go_loop [7] (fun i => ∃ q : Nat, q ≤ (seeO x).length ∧ i = .int .i64 q ∧ ∀ j (hj : j < (seeO x).length), j < q → (seeO x)[j].length ≤ 100) (fun i => (seeO x).length - (intOf i).toNat)
                case atStart => exact ⟨0, by omega, rfl, fun j _ h => by omega⟩
                case round =>
                  obtain ⟨p, hp, rfl, hall⟩ := hrel
                  have HP := Lib.hid hall
                  clear hall
                  by_cases hplt : p < (seeO x).length
                  · obtain ⟨b2, off2, cap2, hv2, _, hc2⟩ := str_at HN.out.2 hplt
                    injection hv2 with e1 e2 e3
                    subst e1
                    have hpi : (p : Int) < (seeO x).length := by omega
                    have hp0 : (0 : Int) ≤ (p : Int) := by omega
                    have HBQ : Hid (¬ (seeO x)[p].length ≤ 100 → res = false) := Lib.hid fun h1 => HB.out fun h2 => h1 (h2.2.2.2 p hplt)
                    have HGQ : Hid ((seeO x)[p].length ≤ 100 → ∀ j (hj : j < (seeO x).length), j < p + 1 → (seeO x)[j].length ≤ 100) := Lib.hid fun h1 j hj hjk => by
                      rcases Nat.lt_or_ge j p with h2 | h2
                      · exact HP.out j hj h2
                      · have : j = p := by omega
                        subst this; exact h1
                    clear e2 e3
                    generalize (seeO x)[p] = s at *
                    unfold vs at hc2
                    by_cases hs : s.length ≤ 100
                    · have hs1 : ¬ (100 : Int) < ((toB s).size : Int) := by rw [size_toB]; omega
                      have HS := Lib.hid hs
                      clear hs
                      go_wp2
                      go_round
                      case rel => exact ⟨p + 1, by omega, by go_num, HGQ.out HS.out⟩
                      case measure => simp [intOf]; omega
                    · have hs1 : (100 : Int) < ((toB s).size : Int) := by rw [size_toB]; omega
                      have HE := Lib.hid (HBQ.out hs)
                      clear hs
                      go_wp2
                      go_ret
                      exact ⟨ret_bool HE.out.symm, rfl⟩
                  · have hpe : p = (seeO x).length := by omega
                    subst hpe
                    have HOK : Hid (okO x) := Lib.hid ⟨by omega, by omega, fun j hj => HQ.out j hj hj, fun j hj => HP.out j hj hj⟩
                    go_wp2
                    go_round
                    case rel => exact ⟨k + 1, by omega, by go_num, HG.out HOK.out⟩
                    case measure => simp [intOf]; omega
      · have hkk : k = h.length := by omega
        subst hkk
        have HE := Lib.hid (HYES.out HLEN.out fun j hj => HALL.out j hj hj)
        go_wp2
        go_ret
        exact ⟨ret_bool HE.out.symm, rfl⟩
  · have hlen2 : most < (h.length : Int) := by omega
    have HE := Lib.hid (HNO.out fun h1 => hlen h1.1)
    clear hlen
    go_wp2
    go_ret
    exact ⟨ret_bool HE.out.symm, rfl⟩
end Go.Proofs.Ytnpfalloelmflaa
