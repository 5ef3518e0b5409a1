/-
  HistoryLegal: for all histories, orders and positions the law returns true, and what came in reads behind the call as before. No condition.
-/
import Derived.Test.YtnpfalloelmflaaLg
import Derived.Test.YtnpfalloelmflaaSw
import Derived.Test.YtnpfalloelmflaaPn
import Derived.Test.YtnpfalloelmflaaHs
import Derived.Test.YtnpfalloelmflaaHz
import Derived.Test.YtnpfalloelmflaaHq
import Derived.Deep.DeepCutAuto
namespace Go.Proofs.Ytnpfalloelmflaa.historyLegal
open Go.ChangeShapes Go.WideShapes Go.ChangeAt Go.RowKit

set_option maxRecDepth 100000 in
set_option maxHeartbeats 8000000 in
theorem walk (v u : Value) (h : List Opn) (order : List Int) (at_ : Int) (W : World) (hr : ReadsO W v h) (ho : Reads vi W u order) : Calls Try.prog 6 #[v, u, .int .i64 at_] W (BoolMade W true) := by
  have HR := Lib.hid hr
  have HO := Lib.hid ho
  have HSM := Lib.hid (rsmall_any v h 20 W hr)
  obtain ⟨ao, cap, rfl, hl, hm, -, -⟩ := hr
  obtain ⟨ao2, cap2, rfl, hl2, hm2, -, -⟩ := ho
  unfold maxLen at hm hm2
  go_enter Try.func6, Try.ntmps6
  have KW := Lib.hid (Below.refl W.heap.size W)
  by_cases hs : smallB h 20 = true
  · have HS := Lib.hid (SmallH.of (by decide) hs)
    have hn := HS.out.1
    rw [hs] at HSM
    clear hs
    go_wp2_with fail
    refine (HSM.out).mono ?_
    rintro e W ⟨rfl, rfl⟩
    by_cases hlen : order.length ≤ 30
    · have hleni : ¬ (30 : Int) < order.length := by omega
      have hor : order.length ≤ 1000 := by omega
      go_wp2_with fail
      refine (legal_any _ _ h order _ HR.out HO.out HS.out hor).mono ?_
      rintro e w1 ⟨rfl, hb⟩
      replace HR := Lib.hid (HR.out.on hb)
      replace HO := Lib.hid (HO.out.keep hb)
      replace KW := Lib.hid (KW.out.trans (hb.mono KW.out.size))
      clear hb
      go_wp2_with fail
      refine (rlegal_any _ _ h order _ HR.out HO.out HS.out hor).mono ?_
      rintro e w2 ⟨rfl, hb⟩
      replace HR := Lib.hid (HR.out.on hb)
      replace HO := Lib.hid (HO.out.keep hb)
      replace KW := Lib.hid (KW.out.trans (hb.mono KW.out.size))
      clear hb
      cases hyes : legB h order with
      | false =>
        clear hyes
        go_wp2_with fail
        refine region_left [.is (.bool false), .is (.bool true), .is (.bool true), .is undef, .is undef, .is (.bool true), .is (.bool true), .is undef, .is undef, .is undef, .is undef, .is undef, .is (.bool true), .is (.bool true), .is undef, .is undef, .is undef, .is undef, .is undef, .is undef, .is undef, .is undef, .is undef, .is undef, .is undef, .is undef, .is undef, .is undef, .is undef, .is undef, .is undef, .is undef, .is (.bool true)] (by kernel_rfl) rfl (by kernel_rfl) (by kernel_rfl) (.cons ?q1_0 (.cons ?q1_1 (.cons ?q1_2 (.cons ?q1_3 (.cons ?q1_4 (.cons ?q1_5 (.cons ?q1_6 (.cons ?q1_7 (.cons ?q1_8 (.cons ?q1_9 (.cons ?q1_10 (.cons ?q1_11 (.cons ?q1_12 (.cons ?q1_13 (.cons ?q1_14 (.cons ?q1_15 (.cons ?q1_16 (.cons ?q1_17 (.cons ?q1_18 (.cons ?q1_19 (.cons ?q1_20 (.cons ?q1_21 (.cons ?q1_22 (.cons ?q1_23 (.cons ?q1_24 (.cons ?q1_25 (.cons ?q1_26 (.cons ?q1_27 (.cons ?q1_28 (.cons ?q1_29 (.cons ?q1_30 (.cons ?q1_31 (.cons ?q1_32 .nil))))))))))))))))))))))))))))))))) ?q1_fin
        case q1_0 =>
          intro wq hbw st  K hK
          have KQ := KW.out.trans (hbw.mono KW.out.size)
          simp only [Act.put, List.setIfInBounds_toArray, List.set_cons_zero, List.set_cons_succ] at hK ⊢
          unfold opStep
          rw [if_pos (by rfl)]
          go_simp
          exact hK.out _ _ (Below.refl _ _) rfl _ rfl
        case q1_1 =>
          intro wq hbw st  K hK
          have KQ := KW.out.trans (hbw.mono KW.out.size)
          simp only [Act.put, List.setIfInBounds_toArray, List.set_cons_zero, List.set_cons_succ] at hK ⊢
          unfold opStep
          rw [if_pos (by rfl)]
          go_simp
          exact hK.out _ _ (Below.refl _ _) rfl _ rfl
        case q1_2 =>
          intro wq hbw st  K hK
          have KQ := KW.out.trans (hbw.mono KW.out.size)
          simp only [Act.put, List.setIfInBounds_toArray, List.set_cons_zero, List.set_cons_succ] at hK ⊢
          unfold opStep
          rw [if_pos (by rfl)]
          go_simp
          exact hK.out _ _ (Below.refl _ _) rfl _ rfl
        case q1_3 =>
          intro wq hbw st  K hK
          have KQ := KW.out.trans (hbw.mono KW.out.size)
          simp only [Act.put, List.setIfInBounds_toArray, List.set_cons_zero, List.set_cons_succ] at hK ⊢
          unfold opStep
          rw [if_neg (by change ¬ (false = true); exact Bool.false_ne_true)]
          exact hK.out _ _ (Below.refl _ _) rfl _ rfl
        case q1_4 =>
          intro wq hbw st  K hK
          have KQ := KW.out.trans (hbw.mono KW.out.size)
          simp only [Act.put, List.setIfInBounds_toArray, List.set_cons_zero, List.set_cons_succ] at hK ⊢
          unfold opStep
          rw [if_neg (by change ¬ (false = true); exact Bool.false_ne_true)]
          exact hK.out _ _ (Below.refl _ _) rfl _ rfl
        case q1_5 =>
          intro wq hbw st  K hK
          have KQ := KW.out.trans (hbw.mono KW.out.size)
          simp only [Act.put, List.setIfInBounds_toArray, List.set_cons_zero, List.set_cons_succ] at hK ⊢
          unfold opStep
          rw [if_pos (by rfl)]
          go_simp
          exact hK.out _ _ (Below.refl _ _) rfl _ rfl
        case q1_6 =>
          intro wq hbw st  K hK
          have KQ := KW.out.trans (hbw.mono KW.out.size)
          simp only [Act.put, List.setIfInBounds_toArray, List.set_cons_zero, List.set_cons_succ] at hK ⊢
          unfold opStep
          rw [if_pos (by rfl)]
          go_simp
          exact hK.out _ _ (Below.refl _ _) rfl _ rfl
        case q1_7 =>
          intro wq hbw st  K hK
          have KQ := KW.out.trans (hbw.mono KW.out.size)
          simp only [Act.put, List.setIfInBounds_toArray, List.set_cons_zero, List.set_cons_succ] at hK ⊢
          unfold opStep
          rw [if_neg (by change ¬ (false = true); exact Bool.false_ne_true)]
          exact hK.out _ _ (Below.refl _ _) rfl _ rfl
        case q1_8 =>
          intro wq hbw st  K hK
          have KQ := KW.out.trans (hbw.mono KW.out.size)
          simp only [Act.put, List.setIfInBounds_toArray, List.set_cons_zero, List.set_cons_succ] at hK ⊢
          unfold opStep
          rw [if_neg (by change ¬ (false = true); exact Bool.false_ne_true)]
          exact hK.out _ _ (Below.refl _ _) rfl _ rfl
        case q1_9 =>
          intro wq hbw st  K hK
          have KQ := KW.out.trans (hbw.mono KW.out.size)
          simp only [Act.put, List.setIfInBounds_toArray, List.set_cons_zero, List.set_cons_succ] at hK ⊢
          unfold opStep
          rw [if_neg (by change ¬ (false = true); exact Bool.false_ne_true)]
          exact hK.out _ _ (Below.refl _ _) rfl _ rfl
        case q1_10 =>
          intro wq hbw st  K hK
          have KQ := KW.out.trans (hbw.mono KW.out.size)
          simp only [Act.put, List.setIfInBounds_toArray, List.set_cons_zero, List.set_cons_succ] at hK ⊢
          unfold opStep
          rw [if_neg (by change ¬ (false = true); exact Bool.false_ne_true)]
          exact hK.out _ _ (Below.refl _ _) rfl _ rfl
        case q1_11 =>
          intro wq hbw st  K hK
          have KQ := KW.out.trans (hbw.mono KW.out.size)
          simp only [Act.put, List.setIfInBounds_toArray, List.set_cons_zero, List.set_cons_succ] at hK ⊢
          unfold opStep
          rw [if_neg (by change ¬ (false = true); exact Bool.false_ne_true)]
          exact hK.out _ _ (Below.refl _ _) rfl _ rfl
        case q1_12 =>
          intro wq hbw st  K hK
          have KQ := KW.out.trans (hbw.mono KW.out.size)
          simp only [Act.put, List.setIfInBounds_toArray, List.set_cons_zero, List.set_cons_succ] at hK ⊢
          unfold opStep
          rw [if_pos (by rfl)]
          go_simp
          exact hK.out _ _ (Below.refl _ _) rfl _ rfl
        case q1_13 =>
          intro wq hbw st  K hK
          have KQ := KW.out.trans (hbw.mono KW.out.size)
          simp only [Act.put, List.setIfInBounds_toArray, List.set_cons_zero, List.set_cons_succ] at hK ⊢
          unfold opStep
          rw [if_pos (by rfl)]
          go_simp
          exact hK.out _ _ (Below.refl _ _) rfl _ rfl
        case q1_14 =>
          intro wq hbw st  K hK
          have KQ := KW.out.trans (hbw.mono KW.out.size)
          simp only [Act.put, List.setIfInBounds_toArray, List.set_cons_zero, List.set_cons_succ] at hK ⊢
          unfold opStep
          rw [if_neg (by change ¬ (false = true); exact Bool.false_ne_true)]
          exact hK.out _ _ (Below.refl _ _) rfl _ rfl
        case q1_15 =>
          intro wq hbw st  K hK
          have KQ := KW.out.trans (hbw.mono KW.out.size)
          simp only [Act.put, List.setIfInBounds_toArray, List.set_cons_zero, List.set_cons_succ] at hK ⊢
          unfold opStep
          rw [if_neg (by change ¬ (false = true); exact Bool.false_ne_true)]
          exact hK.out _ _ (Below.refl _ _) rfl _ rfl
        case q1_16 =>
          intro wq hbw st  K hK
          have KQ := KW.out.trans (hbw.mono KW.out.size)
          simp only [Act.put, List.setIfInBounds_toArray, List.set_cons_zero, List.set_cons_succ] at hK ⊢
          unfold opStep
          rw [if_neg (by change ¬ (false = true); exact Bool.false_ne_true)]
          exact hK.out _ _ (Below.refl _ _) rfl _ rfl
        case q1_17 =>
          intro wq hbw st  K hK
          have KQ := KW.out.trans (hbw.mono KW.out.size)
          simp only [Act.put, List.setIfInBounds_toArray, List.set_cons_zero, List.set_cons_succ] at hK ⊢
          unfold opStep
          rw [if_neg (by change ¬ (false = true); exact Bool.false_ne_true)]
          exact hK.out _ _ (Below.refl _ _) rfl _ rfl
        case q1_18 =>
          intro wq hbw st  K hK
          have KQ := KW.out.trans (hbw.mono KW.out.size)
          simp only [Act.put, List.setIfInBounds_toArray, List.set_cons_zero, List.set_cons_succ] at hK ⊢
          unfold opStep
          rw [if_neg (by change ¬ (false = true); exact Bool.false_ne_true)]
          exact hK.out _ _ (Below.refl _ _) rfl _ rfl
        case q1_19 =>
          intro wq hbw st  K hK
          have KQ := KW.out.trans (hbw.mono KW.out.size)
          simp only [Act.put, List.setIfInBounds_toArray, List.set_cons_zero, List.set_cons_succ] at hK ⊢
          unfold opStep
          rw [if_neg (by change ¬ (false = true); exact Bool.false_ne_true)]
          exact hK.out _ _ (Below.refl _ _) rfl _ rfl
        case q1_20 =>
          intro wq hbw st  K hK
          have KQ := KW.out.trans (hbw.mono KW.out.size)
          simp only [Act.put, List.setIfInBounds_toArray, List.set_cons_zero, List.set_cons_succ] at hK ⊢
          unfold opStep
          rw [if_neg (by change ¬ (false = true); exact Bool.false_ne_true)]
          exact hK.out _ _ (Below.refl _ _) rfl _ rfl
        case q1_21 =>
          intro wq hbw st  K hK
          have KQ := KW.out.trans (hbw.mono KW.out.size)
          simp only [Act.put, List.setIfInBounds_toArray, List.set_cons_zero, List.set_cons_succ] at hK ⊢
          unfold opStep
          rw [if_neg (by change ¬ (false = true); exact Bool.false_ne_true)]
          exact hK.out _ _ (Below.refl _ _) rfl _ rfl
        case q1_22 =>
          intro wq hbw st  K hK
          have KQ := KW.out.trans (hbw.mono KW.out.size)
          simp only [Act.put, List.setIfInBounds_toArray, List.set_cons_zero, List.set_cons_succ] at hK ⊢
          unfold opStep
          rw [if_neg (by change ¬ (false = true); exact Bool.false_ne_true)]
          exact hK.out _ _ (Below.refl _ _) rfl _ rfl
        case q1_23 =>
          intro wq hbw st  K hK
          have KQ := KW.out.trans (hbw.mono KW.out.size)
          simp only [Act.put, List.setIfInBounds_toArray, List.set_cons_zero, List.set_cons_succ] at hK ⊢
          unfold opStep
          rw [if_neg (by change ¬ (false = true); exact Bool.false_ne_true)]
          exact hK.out _ _ (Below.refl _ _) rfl _ rfl
        case q1_24 =>
          intro wq hbw st  K hK
          have KQ := KW.out.trans (hbw.mono KW.out.size)
          simp only [Act.put, List.setIfInBounds_toArray, List.set_cons_zero, List.set_cons_succ] at hK ⊢
          unfold opStep
          rw [if_neg (by change ¬ (false = true); exact Bool.false_ne_true)]
          exact hK.out _ _ (Below.refl _ _) rfl _ rfl
        case q1_25 =>
          intro wq hbw st  K hK
          have KQ := KW.out.trans (hbw.mono KW.out.size)
          simp only [Act.put, List.setIfInBounds_toArray, List.set_cons_zero, List.set_cons_succ] at hK ⊢
          unfold opStep
          rw [if_neg (by change ¬ (false = true); exact Bool.false_ne_true)]
          exact hK.out _ _ (Below.refl _ _) rfl _ rfl
        case q1_26 =>
          intro wq hbw st  K hK
          have KQ := KW.out.trans (hbw.mono KW.out.size)
          simp only [Act.put, List.setIfInBounds_toArray, List.set_cons_zero, List.set_cons_succ] at hK ⊢
          unfold opStep
          rw [if_neg (by change ¬ (false = true); exact Bool.false_ne_true)]
          exact hK.out _ _ (Below.refl _ _) rfl _ rfl
        case q1_27 =>
          intro wq hbw st  K hK
          have KQ := KW.out.trans (hbw.mono KW.out.size)
          simp only [Act.put, List.setIfInBounds_toArray, List.set_cons_zero, List.set_cons_succ] at hK ⊢
          unfold opStep
          rw [if_neg (by change ¬ (false = true); exact Bool.false_ne_true)]
          exact hK.out _ _ (Below.refl _ _) rfl _ rfl
        case q1_28 =>
          intro wq hbw st  K hK
          have KQ := KW.out.trans (hbw.mono KW.out.size)
          simp only [Act.put, List.setIfInBounds_toArray, List.set_cons_zero, List.set_cons_succ] at hK ⊢
          unfold opStep
          rw [if_neg (by change ¬ (false = true); exact Bool.false_ne_true)]
          exact hK.out _ _ (Below.refl _ _) rfl _ rfl
        case q1_29 =>
          intro wq hbw st  K hK
          have KQ := KW.out.trans (hbw.mono KW.out.size)
          simp only [Act.put, List.setIfInBounds_toArray, List.set_cons_zero, List.set_cons_succ] at hK ⊢
          unfold opStep
          rw [if_neg (by change ¬ (false = true); exact Bool.false_ne_true)]
          exact hK.out _ _ (Below.refl _ _) rfl _ rfl
        case q1_30 =>
          intro wq hbw st  K hK
          have KQ := KW.out.trans (hbw.mono KW.out.size)
          simp only [Act.put, List.setIfInBounds_toArray, List.set_cons_zero, List.set_cons_succ] at hK ⊢
          unfold opStep
          rw [if_neg (by change ¬ (false = true); exact Bool.false_ne_true)]
          exact hK.out _ _ (Below.refl _ _) rfl _ rfl
        case q1_31 =>
          intro wq hbw st  K hK
          have KQ := KW.out.trans (hbw.mono KW.out.size)
          simp only [Act.put, List.setIfInBounds_toArray, List.set_cons_zero, List.set_cons_succ] at hK ⊢
          unfold opStep
          rw [if_neg (by change ¬ (false = true); exact Bool.false_ne_true)]
          exact hK.out _ _ (Below.refl _ _) rfl _ rfl
        case q1_32 =>
          intro wq hbw st  K hK
          have KQ := KW.out.trans (hbw.mono KW.out.size)
          simp only [Act.put, List.setIfInBounds_toArray, List.set_cons_zero, List.set_cons_succ] at hK ⊢
          unfold opStep
          rw [if_pos (by rfl)]
          go_simp
          exact hK.out _ _ (Below.refl _ _) rfl _ rfl
        case q1_fin =>
          intro wq hbw
          try simp only [FinAll]
          simp only [Act.put, List.setIfInBounds_toArray, List.set_cons_zero, List.set_cons_succ]
          replace KW := Lib.hid (KW.out.trans (hbw.mono KW.out.size))
          clear hbw
          go_wp2_with fail
          refine (awake_any _).mono ?_
          rintro e w1 ⟨rfl, hb⟩
          replace KW := Lib.hid (KW.out.trans (hb.mono KW.out.size))
          clear hb
          go_wp2
          go_ret
          exact ⟨rfl, KW.out⟩
      | true =>
        have HY := Lib.hid hyes
        clear hyes
        have HWR : Hid (IntKind.i64.wrap ((order.length : Int) - 1) = (order.length : Int) - 1) := Lib.hid (IntWalk.i64_in _ (by omega))
        by_cases hneg : at_ < 0
        · have t1 : decide (at_ < 0) = true := decide_eq_true hneg
          go_wp2_with fail
          refine region_left [.is (.bool true), .is (.bool false), .is (.bool false), .is (.int .i64 at_), .is (.bool true), .is (.bool true), .is (.bool true), .is undef, .is undef, .is undef, .is undef, .is undef, .is (.bool true), .is (.bool true), .is undef, .is undef, .is undef, .is undef, .is undef, .is undef, .is undef, .is undef, .is undef, .is undef, .is undef, .is undef, .is undef, .is undef, .is undef, .is undef, .is undef, .is undef, .is (.bool true)] (by kernel_rfl) rfl (by kernel_rfl) (by kernel_rfl) (.cons ?q2_0 (.cons ?q2_1 (.cons ?q2_2 (.cons ?q2_3 (.cons ?q2_4 (.cons ?q2_5 (.cons ?q2_6 (.cons ?q2_7 (.cons ?q2_8 (.cons ?q2_9 (.cons ?q2_10 (.cons ?q2_11 (.cons ?q2_12 (.cons ?q2_13 (.cons ?q2_14 (.cons ?q2_15 (.cons ?q2_16 (.cons ?q2_17 (.cons ?q2_18 (.cons ?q2_19 (.cons ?q2_20 (.cons ?q2_21 (.cons ?q2_22 (.cons ?q2_23 (.cons ?q2_24 (.cons ?q2_25 (.cons ?q2_26 (.cons ?q2_27 (.cons ?q2_28 (.cons ?q2_29 (.cons ?q2_30 (.cons ?q2_31 (.cons ?q2_32 .nil))))))))))))))))))))))))))))))))) ?q2_fin
          case q2_0 =>
            intro wq hbw st  K hK
            have KQ := KW.out.trans (hbw.mono KW.out.size)
            simp only [Act.put, List.setIfInBounds_toArray, List.set_cons_zero, List.set_cons_succ] at hK ⊢
            unfold opStep
            rw [if_pos (by rfl)]
            go_simp
            exact hK.out _ _ (Below.refl _ _) rfl _ rfl
          case q2_1 =>
            intro wq hbw st  K hK
            have KQ := KW.out.trans (hbw.mono KW.out.size)
            simp only [Act.put, List.setIfInBounds_toArray, List.set_cons_zero, List.set_cons_succ] at hK ⊢
            unfold opStep
            rw [if_pos (by rfl)]
            go_simp
            exact hK.out _ _ (Below.refl _ _) rfl _ rfl
          case q2_2 =>
            intro wq hbw st  K hK
            have KQ := KW.out.trans (hbw.mono KW.out.size)
            simp only [Act.put, List.setIfInBounds_toArray, List.set_cons_zero, List.set_cons_succ] at hK ⊢
            unfold opStep
            rw [if_pos (by rfl)]
            go_simp
            exact hK.out _ _ (Below.refl _ _) rfl _ rfl
          case q2_3 =>
            intro wq hbw st  K hK
            have KQ := KW.out.trans (hbw.mono KW.out.size)
            simp only [Act.put, List.setIfInBounds_toArray, List.set_cons_zero, List.set_cons_succ] at hK ⊢
            unfold opStep
            rw [if_pos (by rfl)]
            go_simp
            exact hK.out _ _ (Below.refl _ _) rfl _ rfl
          case q2_4 =>
            intro wq hbw st  K hK
            have KQ := KW.out.trans (hbw.mono KW.out.size)
            simp only [Act.put, List.setIfInBounds_toArray, List.set_cons_zero, List.set_cons_succ] at hK ⊢
            unfold opStep
            rw [if_pos (by rfl)]
            go_simp
            exact hK.out _ _ (Below.refl _ _) rfl _ rfl
          case q2_5 =>
            intro wq hbw st  K hK
            have KQ := KW.out.trans (hbw.mono KW.out.size)
            simp only [Act.put, List.setIfInBounds_toArray, List.set_cons_zero, List.set_cons_succ] at hK ⊢
            unfold opStep
            rw [if_pos (by rfl)]
            go_simp
            exact hK.out _ _ (Below.refl _ _) rfl _ rfl
          case q2_6 =>
            intro wq hbw st  K hK
            have KQ := KW.out.trans (hbw.mono KW.out.size)
            simp only [Act.put, List.setIfInBounds_toArray, List.set_cons_zero, List.set_cons_succ] at hK ⊢
            unfold opStep
            rw [if_pos (by rfl)]
            go_simp
            exact hK.out _ _ (Below.refl _ _) rfl _ rfl
          case q2_7 =>
            intro wq hbw st  K hK
            have KQ := KW.out.trans (hbw.mono KW.out.size)
            simp only [Act.put, List.setIfInBounds_toArray, List.set_cons_zero, List.set_cons_succ] at hK ⊢
            unfold opStep
            rw [if_neg (by change ¬ (false = true); exact Bool.false_ne_true)]
            exact hK.out _ _ (Below.refl _ _) rfl _ rfl
          case q2_8 =>
            intro wq hbw st  K hK
            have KQ := KW.out.trans (hbw.mono KW.out.size)
            simp only [Act.put, List.setIfInBounds_toArray, List.set_cons_zero, List.set_cons_succ] at hK ⊢
            unfold opStep
            rw [if_neg (by change ¬ (false = true); exact Bool.false_ne_true)]
            exact hK.out _ _ (Below.refl _ _) rfl _ rfl
          case q2_9 =>
            intro wq hbw st  K hK
            have KQ := KW.out.trans (hbw.mono KW.out.size)
            simp only [Act.put, List.setIfInBounds_toArray, List.set_cons_zero, List.set_cons_succ] at hK ⊢
            unfold opStep
            rw [if_neg (by change ¬ (false = true); exact Bool.false_ne_true)]
            exact hK.out _ _ (Below.refl _ _) rfl _ rfl
          case q2_10 =>
            intro wq hbw st  K hK
            have KQ := KW.out.trans (hbw.mono KW.out.size)
            simp only [Act.put, List.setIfInBounds_toArray, List.set_cons_zero, List.set_cons_succ] at hK ⊢
            unfold opStep
            rw [if_neg (by change ¬ (false = true); exact Bool.false_ne_true)]
            exact hK.out _ _ (Below.refl _ _) rfl _ rfl
          case q2_11 =>
            intro wq hbw st  K hK
            have KQ := KW.out.trans (hbw.mono KW.out.size)
            simp only [Act.put, List.setIfInBounds_toArray, List.set_cons_zero, List.set_cons_succ] at hK ⊢
            unfold opStep
            rw [if_neg (by change ¬ (false = true); exact Bool.false_ne_true)]
            exact hK.out _ _ (Below.refl _ _) rfl _ rfl
          case q2_12 =>
            intro wq hbw st  K hK
            have KQ := KW.out.trans (hbw.mono KW.out.size)
            simp only [Act.put, List.setIfInBounds_toArray, List.set_cons_zero, List.set_cons_succ] at hK ⊢
            unfold opStep
            rw [if_pos (by rfl)]
            go_simp
            exact hK.out _ _ (Below.refl _ _) rfl _ rfl
          case q2_13 =>
            intro wq hbw st  K hK
            have KQ := KW.out.trans (hbw.mono KW.out.size)
            simp only [Act.put, List.setIfInBounds_toArray, List.set_cons_zero, List.set_cons_succ] at hK ⊢
            unfold opStep
            rw [if_pos (by rfl)]
            go_simp
            exact hK.out _ _ (Below.refl _ _) rfl _ rfl
          case q2_14 =>
            intro wq hbw st  K hK
            have KQ := KW.out.trans (hbw.mono KW.out.size)
            simp only [Act.put, List.setIfInBounds_toArray, List.set_cons_zero, List.set_cons_succ] at hK ⊢
            unfold opStep
            rw [if_neg (by change ¬ (false = true); exact Bool.false_ne_true)]
            exact hK.out _ _ (Below.refl _ _) rfl _ rfl
          case q2_15 =>
            intro wq hbw st  K hK
            have KQ := KW.out.trans (hbw.mono KW.out.size)
            simp only [Act.put, List.setIfInBounds_toArray, List.set_cons_zero, List.set_cons_succ] at hK ⊢
            unfold opStep
            rw [if_neg (by change ¬ (false = true); exact Bool.false_ne_true)]
            exact hK.out _ _ (Below.refl _ _) rfl _ rfl
          case q2_16 =>
            intro wq hbw st  K hK
            have KQ := KW.out.trans (hbw.mono KW.out.size)
            simp only [Act.put, List.setIfInBounds_toArray, List.set_cons_zero, List.set_cons_succ] at hK ⊢
            unfold opStep
            rw [if_neg (by change ¬ (false = true); exact Bool.false_ne_true)]
            exact hK.out _ _ (Below.refl _ _) rfl _ rfl
          case q2_17 =>
            intro wq hbw st  K hK
            have KQ := KW.out.trans (hbw.mono KW.out.size)
            simp only [Act.put, List.setIfInBounds_toArray, List.set_cons_zero, List.set_cons_succ] at hK ⊢
            unfold opStep
            rw [if_neg (by change ¬ (false = true); exact Bool.false_ne_true)]
            exact hK.out _ _ (Below.refl _ _) rfl _ rfl
          case q2_18 =>
            intro wq hbw st  K hK
            have KQ := KW.out.trans (hbw.mono KW.out.size)
            simp only [Act.put, List.setIfInBounds_toArray, List.set_cons_zero, List.set_cons_succ] at hK ⊢
            unfold opStep
            rw [if_neg (by change ¬ (false = true); exact Bool.false_ne_true)]
            exact hK.out _ _ (Below.refl _ _) rfl _ rfl
          case q2_19 =>
            intro wq hbw st  K hK
            have KQ := KW.out.trans (hbw.mono KW.out.size)
            simp only [Act.put, List.setIfInBounds_toArray, List.set_cons_zero, List.set_cons_succ] at hK ⊢
            unfold opStep
            rw [if_neg (by change ¬ (false = true); exact Bool.false_ne_true)]
            exact hK.out _ _ (Below.refl _ _) rfl _ rfl
          case q2_20 =>
            intro wq hbw st  K hK
            have KQ := KW.out.trans (hbw.mono KW.out.size)
            simp only [Act.put, List.setIfInBounds_toArray, List.set_cons_zero, List.set_cons_succ] at hK ⊢
            unfold opStep
            rw [if_neg (by change ¬ (false = true); exact Bool.false_ne_true)]
            exact hK.out _ _ (Below.refl _ _) rfl _ rfl
          case q2_21 =>
            intro wq hbw st  K hK
            have KQ := KW.out.trans (hbw.mono KW.out.size)
            simp only [Act.put, List.setIfInBounds_toArray, List.set_cons_zero, List.set_cons_succ] at hK ⊢
            unfold opStep
            rw [if_neg (by change ¬ (false = true); exact Bool.false_ne_true)]
            exact hK.out _ _ (Below.refl _ _) rfl _ rfl
          case q2_22 =>
            intro wq hbw st  K hK
            have KQ := KW.out.trans (hbw.mono KW.out.size)
            simp only [Act.put, List.setIfInBounds_toArray, List.set_cons_zero, List.set_cons_succ] at hK ⊢
            unfold opStep
            rw [if_neg (by change ¬ (false = true); exact Bool.false_ne_true)]
            exact hK.out _ _ (Below.refl _ _) rfl _ rfl
          case q2_23 =>
            intro wq hbw st  K hK
            have KQ := KW.out.trans (hbw.mono KW.out.size)
            simp only [Act.put, List.setIfInBounds_toArray, List.set_cons_zero, List.set_cons_succ] at hK ⊢
            unfold opStep
            rw [if_neg (by change ¬ (false = true); exact Bool.false_ne_true)]
            exact hK.out _ _ (Below.refl _ _) rfl _ rfl
          case q2_24 =>
            intro wq hbw st  K hK
            have KQ := KW.out.trans (hbw.mono KW.out.size)
            simp only [Act.put, List.setIfInBounds_toArray, List.set_cons_zero, List.set_cons_succ] at hK ⊢
            unfold opStep
            rw [if_neg (by change ¬ (false = true); exact Bool.false_ne_true)]
            exact hK.out _ _ (Below.refl _ _) rfl _ rfl
          case q2_25 =>
            intro wq hbw st  K hK
            have KQ := KW.out.trans (hbw.mono KW.out.size)
            simp only [Act.put, List.setIfInBounds_toArray, List.set_cons_zero, List.set_cons_succ] at hK ⊢
            unfold opStep
            rw [if_neg (by change ¬ (false = true); exact Bool.false_ne_true)]
            exact hK.out _ _ (Below.refl _ _) rfl _ rfl
          case q2_26 =>
            intro wq hbw st  K hK
            have KQ := KW.out.trans (hbw.mono KW.out.size)
            simp only [Act.put, List.setIfInBounds_toArray, List.set_cons_zero, List.set_cons_succ] at hK ⊢
            unfold opStep
            rw [if_neg (by change ¬ (false = true); exact Bool.false_ne_true)]
            exact hK.out _ _ (Below.refl _ _) rfl _ rfl
          case q2_27 =>
            intro wq hbw st  K hK
            have KQ := KW.out.trans (hbw.mono KW.out.size)
            simp only [Act.put, List.setIfInBounds_toArray, List.set_cons_zero, List.set_cons_succ] at hK ⊢
            unfold opStep
            rw [if_neg (by change ¬ (false = true); exact Bool.false_ne_true)]
            exact hK.out _ _ (Below.refl _ _) rfl _ rfl
          case q2_28 =>
            intro wq hbw st  K hK
            have KQ := KW.out.trans (hbw.mono KW.out.size)
            simp only [Act.put, List.setIfInBounds_toArray, List.set_cons_zero, List.set_cons_succ] at hK ⊢
            unfold opStep
            rw [if_neg (by change ¬ (false = true); exact Bool.false_ne_true)]
            exact hK.out _ _ (Below.refl _ _) rfl _ rfl
          case q2_29 =>
            intro wq hbw st  K hK
            have KQ := KW.out.trans (hbw.mono KW.out.size)
            simp only [Act.put, List.setIfInBounds_toArray, List.set_cons_zero, List.set_cons_succ] at hK ⊢
            unfold opStep
            rw [if_neg (by change ¬ (false = true); exact Bool.false_ne_true)]
            exact hK.out _ _ (Below.refl _ _) rfl _ rfl
          case q2_30 =>
            intro wq hbw st  K hK
            have KQ := KW.out.trans (hbw.mono KW.out.size)
            simp only [Act.put, List.setIfInBounds_toArray, List.set_cons_zero, List.set_cons_succ] at hK ⊢
            unfold opStep
            rw [if_neg (by change ¬ (false = true); exact Bool.false_ne_true)]
            exact hK.out _ _ (Below.refl _ _) rfl _ rfl
          case q2_31 =>
            intro wq hbw st  K hK
            have KQ := KW.out.trans (hbw.mono KW.out.size)
            simp only [Act.put, List.setIfInBounds_toArray, List.set_cons_zero, List.set_cons_succ] at hK ⊢
            unfold opStep
            rw [if_neg (by change ¬ (false = true); exact Bool.false_ne_true)]
            exact hK.out _ _ (Below.refl _ _) rfl _ rfl
          case q2_32 =>
            intro wq hbw st  K hK
            have KQ := KW.out.trans (hbw.mono KW.out.size)
            simp only [Act.put, List.setIfInBounds_toArray, List.set_cons_zero, List.set_cons_succ] at hK ⊢
            unfold opStep
            rw [if_pos (by rfl)]
            go_simp
            exact hK.out _ _ (Below.refl _ _) rfl _ rfl
          case q2_fin =>
            intro wq hbw
            try simp only [FinAll]
            simp only [Act.put, List.setIfInBounds_toArray, List.set_cons_zero, List.set_cons_succ]
            replace KW := Lib.hid (KW.out.trans (hbw.mono KW.out.size))
            clear hbw
            go_wp2_with fail
            refine (awake_any _).mono ?_
            rintro e w1 ⟨rfl, hb⟩
            replace KW := Lib.hid (KW.out.trans (hb.mono KW.out.size))
            clear hb
            go_wp2
            go_ret
            exact ⟨rfl, KW.out⟩
        · obtain ⟨q, rfl⟩ := Int.eq_ofNat_of_zero_le (show 0 ≤ at_ by omega)
          clear hneg
          have t1 : decide ((q : Int) < 0) = false := decide_eq_false (by omega)
          have wr1 := HWR.out
          by_cases hge : (order.length : Int) - 1 ≤ (q : Int)
          · have hge2 : (order.length : Int) ≤ (q : Int) + 1 := by omega
            have t2 : decide ((order.length : Int) - 1 ≤ (q : Int)) = true := decide_eq_true hge
            have t3 : decide ((order.length : Int) ≤ (q : Int) + 1) = true := decide_eq_true hge2
            go_wp2_with fail
            refine region_left [.is (.bool true), .is (.bool false), .is (.bool false), .is (.int .i64 (q : Int)), .is (.bool false), .is (.bool false), .is (.bool false), .is (.int .i64 (q : Int)), .is (.slice ao2 order.length cap2), .is (.int .i64 order.length), .is (.int .i64 ((order.length : Int) - 1)), .is (.bool true), .is (.bool true), .is (.bool true), .is undef, .is undef, .is undef, .is undef, .is undef, .is undef, .is undef, .is undef, .is undef, .is undef, .is undef, .is undef, .is undef, .is undef, .is undef, .is undef, .is undef, .is undef, .is (.bool true)] (by kernel_rfl) rfl (by kernel_rfl) (by kernel_rfl) (.cons ?q3_0 (.cons ?q3_1 (.cons ?q3_2 (.cons ?q3_3 (.cons ?q3_4 (.cons ?q3_5 (.cons ?q3_6 (.cons ?q3_7 (.cons ?q3_8 (.cons ?q3_9 (.cons ?q3_10 (.cons ?q3_11 (.cons ?q3_12 (.cons ?q3_13 (.cons ?q3_14 (.cons ?q3_15 (.cons ?q3_16 (.cons ?q3_17 (.cons ?q3_18 (.cons ?q3_19 (.cons ?q3_20 (.cons ?q3_21 (.cons ?q3_22 (.cons ?q3_23 (.cons ?q3_24 (.cons ?q3_25 (.cons ?q3_26 (.cons ?q3_27 (.cons ?q3_28 (.cons ?q3_29 (.cons ?q3_30 (.cons ?q3_31 (.cons ?q3_32 .nil))))))))))))))))))))))))))))))))) ?q3_fin
            case q3_0 =>
              intro wq hbw st  K hK
              have KQ := KW.out.trans (hbw.mono KW.out.size)
              simp only [Act.put, List.setIfInBounds_toArray, List.set_cons_zero, List.set_cons_succ] at hK ⊢
              unfold opStep
              rw [if_pos (by rfl)]
              go_simp
              exact hK.out _ _ (Below.refl _ _) rfl _ rfl
            case q3_1 =>
              intro wq hbw st  K hK
              have KQ := KW.out.trans (hbw.mono KW.out.size)
              simp only [Act.put, List.setIfInBounds_toArray, List.set_cons_zero, List.set_cons_succ] at hK ⊢
              unfold opStep
              rw [if_pos (by rfl)]
              go_simp
              exact hK.out _ _ (Below.refl _ _) rfl _ rfl
            case q3_2 =>
              intro wq hbw st  K hK
              have KQ := KW.out.trans (hbw.mono KW.out.size)
              simp only [Act.put, List.setIfInBounds_toArray, List.set_cons_zero, List.set_cons_succ] at hK ⊢
              unfold opStep
              rw [if_pos (by rfl)]
              go_simp
              exact hK.out _ _ (Below.refl _ _) rfl _ rfl
            case q3_3 =>
              intro wq hbw st  K hK
              have KQ := KW.out.trans (hbw.mono KW.out.size)
              simp only [Act.put, List.setIfInBounds_toArray, List.set_cons_zero, List.set_cons_succ] at hK ⊢
              unfold opStep
              rw [if_pos (by rfl)]
              go_simp
              exact hK.out _ _ (Below.refl _ _) rfl _ rfl
            case q3_4 =>
              intro wq hbw st  K hK
              have KQ := KW.out.trans (hbw.mono KW.out.size)
              simp only [Act.put, List.setIfInBounds_toArray, List.set_cons_zero, List.set_cons_succ] at hK ⊢
              unfold opStep
              rw [if_pos (by rfl)]
              go_simp
              exact hK.out _ _ (Below.refl _ _) rfl _ rfl
            case q3_5 =>
              intro wq hbw st  K hK
              have KQ := KW.out.trans (hbw.mono KW.out.size)
              simp only [Act.put, List.setIfInBounds_toArray, List.set_cons_zero, List.set_cons_succ] at hK ⊢
              unfold opStep
              rw [if_pos (by rfl)]
              go_simp
              exact hK.out _ _ (Below.refl _ _) rfl _ rfl
            case q3_6 =>
              intro wq hbw st  K hK
              have KQ := KW.out.trans (hbw.mono KW.out.size)
              simp only [Act.put, List.setIfInBounds_toArray, List.set_cons_zero, List.set_cons_succ] at hK ⊢
              unfold opStep
              rw [if_pos (by rfl)]
              go_simp
              exact hK.out _ _ (Below.refl _ _) rfl _ rfl
            case q3_7 =>
              intro wq hbw st  K hK
              have KQ := KW.out.trans (hbw.mono KW.out.size)
              simp only [Act.put, List.setIfInBounds_toArray, List.set_cons_zero, List.set_cons_succ] at hK ⊢
              unfold opStep
              rw [if_pos (by rfl)]
              go_simp
              exact hK.out _ _ (Below.refl _ _) rfl _ rfl
            case q3_8 =>
              intro wq hbw st  K hK
              have KQ := KW.out.trans (hbw.mono KW.out.size)
              simp only [Act.put, List.setIfInBounds_toArray, List.set_cons_zero, List.set_cons_succ] at hK ⊢
              unfold opStep
              rw [if_pos (by rfl)]
              go_simp
              exact hK.out _ _ (Below.refl _ _) rfl _ rfl
            case q3_9 =>
              intro wq hbw st  K hK
              have KQ := KW.out.trans (hbw.mono KW.out.size)
              simp only [Act.put, List.setIfInBounds_toArray, List.set_cons_zero, List.set_cons_succ] at hK ⊢
              unfold opStep
              rw [if_pos (by rfl)]
              go_simp
              exact hK.out _ _ (Below.refl _ _) rfl _ rfl
            case q3_10 =>
              intro wq hbw st  K hK
              have KQ := KW.out.trans (hbw.mono KW.out.size)
              simp only [Act.put, List.setIfInBounds_toArray, List.set_cons_zero, List.set_cons_succ] at hK ⊢
              unfold opStep
              rw [if_pos (by rfl)]
              go_simp
              exact hK.out _ _ (Below.refl _ _) rfl _ rfl
            case q3_11 =>
              intro wq hbw st  K hK
              have KQ := KW.out.trans (hbw.mono KW.out.size)
              simp only [Act.put, List.setIfInBounds_toArray, List.set_cons_zero, List.set_cons_succ] at hK ⊢
              unfold opStep
              rw [if_pos (by rfl)]
              go_simp
              exact hK.out _ _ (Below.refl _ _) rfl _ rfl
            case q3_12 =>
              intro wq hbw st  K hK
              have KQ := KW.out.trans (hbw.mono KW.out.size)
              simp only [Act.put, List.setIfInBounds_toArray, List.set_cons_zero, List.set_cons_succ] at hK ⊢
              unfold opStep
              rw [if_pos (by rfl)]
              go_simp
              exact hK.out _ _ (Below.refl _ _) rfl _ rfl
            case q3_13 =>
              intro wq hbw st  K hK
              have KQ := KW.out.trans (hbw.mono KW.out.size)
              simp only [Act.put, List.setIfInBounds_toArray, List.set_cons_zero, List.set_cons_succ] at hK ⊢
              unfold opStep
              rw [if_pos (by rfl)]
              go_simp
              exact hK.out _ _ (Below.refl _ _) rfl _ rfl
            case q3_14 =>
              intro wq hbw st  K hK
              have KQ := KW.out.trans (hbw.mono KW.out.size)
              simp only [Act.put, List.setIfInBounds_toArray, List.set_cons_zero, List.set_cons_succ] at hK ⊢
              unfold opStep
              rw [if_neg (by change ¬ (false = true); exact Bool.false_ne_true)]
              exact hK.out _ _ (Below.refl _ _) rfl _ rfl
            case q3_15 =>
              intro wq hbw st  K hK
              have KQ := KW.out.trans (hbw.mono KW.out.size)
              simp only [Act.put, List.setIfInBounds_toArray, List.set_cons_zero, List.set_cons_succ] at hK ⊢
              unfold opStep
              rw [if_neg (by change ¬ (false = true); exact Bool.false_ne_true)]
              exact hK.out _ _ (Below.refl _ _) rfl _ rfl
            case q3_16 =>
              intro wq hbw st  K hK
              have KQ := KW.out.trans (hbw.mono KW.out.size)
              simp only [Act.put, List.setIfInBounds_toArray, List.set_cons_zero, List.set_cons_succ] at hK ⊢
              unfold opStep
              rw [if_neg (by change ¬ (false = true); exact Bool.false_ne_true)]
              exact hK.out _ _ (Below.refl _ _) rfl _ rfl
            case q3_17 =>
              intro wq hbw st  K hK
              have KQ := KW.out.trans (hbw.mono KW.out.size)
              simp only [Act.put, List.setIfInBounds_toArray, List.set_cons_zero, List.set_cons_succ] at hK ⊢
              unfold opStep
              rw [if_neg (by change ¬ (false = true); exact Bool.false_ne_true)]
              exact hK.out _ _ (Below.refl _ _) rfl _ rfl
            case q3_18 =>
              intro wq hbw st  K hK
              have KQ := KW.out.trans (hbw.mono KW.out.size)
              simp only [Act.put, List.setIfInBounds_toArray, List.set_cons_zero, List.set_cons_succ] at hK ⊢
              unfold opStep
              rw [if_neg (by change ¬ (false = true); exact Bool.false_ne_true)]
              exact hK.out _ _ (Below.refl _ _) rfl _ rfl
            case q3_19 =>
              intro wq hbw st  K hK
              have KQ := KW.out.trans (hbw.mono KW.out.size)
              simp only [Act.put, List.setIfInBounds_toArray, List.set_cons_zero, List.set_cons_succ] at hK ⊢
              unfold opStep
              rw [if_neg (by change ¬ (false = true); exact Bool.false_ne_true)]
              exact hK.out _ _ (Below.refl _ _) rfl _ rfl
            case q3_20 =>
              intro wq hbw st  K hK
              have KQ := KW.out.trans (hbw.mono KW.out.size)
              simp only [Act.put, List.setIfInBounds_toArray, List.set_cons_zero, List.set_cons_succ] at hK ⊢
              unfold opStep
              rw [if_neg (by change ¬ (false = true); exact Bool.false_ne_true)]
              exact hK.out _ _ (Below.refl _ _) rfl _ rfl
            case q3_21 =>
              intro wq hbw st  K hK
              have KQ := KW.out.trans (hbw.mono KW.out.size)
              simp only [Act.put, List.setIfInBounds_toArray, List.set_cons_zero, List.set_cons_succ] at hK ⊢
              unfold opStep
              rw [if_neg (by change ¬ (false = true); exact Bool.false_ne_true)]
              exact hK.out _ _ (Below.refl _ _) rfl _ rfl
            case q3_22 =>
              intro wq hbw st  K hK
              have KQ := KW.out.trans (hbw.mono KW.out.size)
              simp only [Act.put, List.setIfInBounds_toArray, List.set_cons_zero, List.set_cons_succ] at hK ⊢
              unfold opStep
              rw [if_neg (by change ¬ (false = true); exact Bool.false_ne_true)]
              exact hK.out _ _ (Below.refl _ _) rfl _ rfl
            case q3_23 =>
              intro wq hbw st  K hK
              have KQ := KW.out.trans (hbw.mono KW.out.size)
              simp only [Act.put, List.setIfInBounds_toArray, List.set_cons_zero, List.set_cons_succ] at hK ⊢
              unfold opStep
              rw [if_neg (by change ¬ (false = true); exact Bool.false_ne_true)]
              exact hK.out _ _ (Below.refl _ _) rfl _ rfl
            case q3_24 =>
              intro wq hbw st  K hK
              have KQ := KW.out.trans (hbw.mono KW.out.size)
              simp only [Act.put, List.setIfInBounds_toArray, List.set_cons_zero, List.set_cons_succ] at hK ⊢
              unfold opStep
              rw [if_neg (by change ¬ (false = true); exact Bool.false_ne_true)]
              exact hK.out _ _ (Below.refl _ _) rfl _ rfl
            case q3_25 =>
              intro wq hbw st  K hK
              have KQ := KW.out.trans (hbw.mono KW.out.size)
              simp only [Act.put, List.setIfInBounds_toArray, List.set_cons_zero, List.set_cons_succ] at hK ⊢
              unfold opStep
              rw [if_neg (by change ¬ (false = true); exact Bool.false_ne_true)]
              exact hK.out _ _ (Below.refl _ _) rfl _ rfl
            case q3_26 =>
              intro wq hbw st  K hK
              have KQ := KW.out.trans (hbw.mono KW.out.size)
              simp only [Act.put, List.setIfInBounds_toArray, List.set_cons_zero, List.set_cons_succ] at hK ⊢
              unfold opStep
              rw [if_neg (by change ¬ (false = true); exact Bool.false_ne_true)]
              exact hK.out _ _ (Below.refl _ _) rfl _ rfl
            case q3_27 =>
              intro wq hbw st  K hK
              have KQ := KW.out.trans (hbw.mono KW.out.size)
              simp only [Act.put, List.setIfInBounds_toArray, List.set_cons_zero, List.set_cons_succ] at hK ⊢
              unfold opStep
              rw [if_neg (by change ¬ (false = true); exact Bool.false_ne_true)]
              exact hK.out _ _ (Below.refl _ _) rfl _ rfl
            case q3_28 =>
              intro wq hbw st  K hK
              have KQ := KW.out.trans (hbw.mono KW.out.size)
              simp only [Act.put, List.setIfInBounds_toArray, List.set_cons_zero, List.set_cons_succ] at hK ⊢
              unfold opStep
              rw [if_neg (by change ¬ (false = true); exact Bool.false_ne_true)]
              exact hK.out _ _ (Below.refl _ _) rfl _ rfl
            case q3_29 =>
              intro wq hbw st  K hK
              have KQ := KW.out.trans (hbw.mono KW.out.size)
              simp only [Act.put, List.setIfInBounds_toArray, List.set_cons_zero, List.set_cons_succ] at hK ⊢
              unfold opStep
              rw [if_neg (by change ¬ (false = true); exact Bool.false_ne_true)]
              exact hK.out _ _ (Below.refl _ _) rfl _ rfl
            case q3_30 =>
              intro wq hbw st  K hK
              have KQ := KW.out.trans (hbw.mono KW.out.size)
              simp only [Act.put, List.setIfInBounds_toArray, List.set_cons_zero, List.set_cons_succ] at hK ⊢
              unfold opStep
              rw [if_neg (by change ¬ (false = true); exact Bool.false_ne_true)]
              exact hK.out _ _ (Below.refl _ _) rfl _ rfl
            case q3_31 =>
              intro wq hbw st  K hK
              have KQ := KW.out.trans (hbw.mono KW.out.size)
              simp only [Act.put, List.setIfInBounds_toArray, List.set_cons_zero, List.set_cons_succ] at hK ⊢
              unfold opStep
              rw [if_neg (by change ¬ (false = true); exact Bool.false_ne_true)]
              exact hK.out _ _ (Below.refl _ _) rfl _ rfl
            case q3_32 =>
              intro wq hbw st  K hK
              have KQ := KW.out.trans (hbw.mono KW.out.size)
              simp only [Act.put, List.setIfInBounds_toArray, List.set_cons_zero, List.set_cons_succ] at hK ⊢
              unfold opStep
              rw [if_pos (by rfl)]
              go_simp
              exact hK.out _ _ (Below.refl _ _) rfl _ rfl
            case q3_fin =>
              intro wq hbw
              try simp only [FinAll]
              simp only [Act.put, List.setIfInBounds_toArray, List.set_cons_zero, List.set_cons_succ]
              replace KW := Lib.hid (KW.out.trans (hbw.mono KW.out.size))
              clear hbw
              go_wp2_with fail
              refine (awake_any _).mono ?_
              rintro e w1 ⟨rfl, hb⟩
              replace KW := Lib.hid (KW.out.trans (hb.mono KW.out.size))
              clear hb
              go_wp2
              go_ret
              exact ⟨rfl, KW.out⟩
          · have hge2 : ¬ (order.length : Int) ≤ (q : Int) + 1 := by omega
            have hq1 : q + 1 < order.length := by omega
            have t2 : decide ((order.length : Int) - 1 ≤ (q : Int)) = false := decide_eq_false hge
            have t3 : decide ((order.length : Int) ≤ (q : Int) + 1) = false := decide_eq_false hge2
            have hq0 : (0 : Int) ≤ (q : Int) := by omega
            have hqi : (q : Int) < order.length := by omega
            have hqj : (q : Int) + 1 < order.length := by omega
            have hqp : (0 : Int) ≤ (q : Int) + 1 := by omega
            have wr2 : IntKind.i64.wrap ((q : Int) + 1) = (q : Int) + 1 := IntWalk.i64_in _ (by omega)
            have tn : ((q : Int) + 1).toNat = q + 1 := by omega
            have HIX := Lib.hid (leg_ind HY.out).1
            obtain ⟨b2, off2, c2, hv, hb, hc⟩ := int_at HO.out (show q < order.length by omega)
            injection hv with e1 e2 e3
            subst e1
            obtain ⟨b2', off2', c2', hv, hb', hc'⟩ := int_at HO.out hq1
            injection hv with e4 e5 e6
            injection e4 with e4
            injection e4 with e4 e7
            subst e4 e7
            clear e2 e3 e5 e6 hb'
            have h1 := HIX.out _ (List.getElem_mem (show q < order.length by omega))
            have h2 := HIX.out _ (List.getElem_mem hq1)
            have HX1 : Hid (order[q]? = some order[q]) := Lib.hid (List.getElem?_eq_getElem (by omega))
            have HSW := Lib.hid (fun x y (hx : h[order[q].toNat]? = some x) (hy : h[order[q+1].toNat]? = some y) (he : kindO x = kindO y) => legal_swap hq1 hx hy he HY.out)
            have HSA := Lib.hid (fun (cur : Array Value) (hx : ∀ j (hj : j < order.length), cur[j]? = some (vi order[j])) => And.intro (hx q (by omega)) (And.intro (hx (q + 1) hq1) (swap_at (show q < order.length by omega) hq1 hx)))
            obtain ⟨i1, hi1⟩ := Int.eq_ofNat_of_zero_le h1.1
            obtain ⟨i2, hi2⟩ := Int.eq_ofNat_of_zero_le h2.1
            have hl1 : i1 < h.length := by omega
            have hl3 : i2 < h.length := by omega
            have HC1 : Hid (∀ wq, Below w2.heap.size w2 wq → wq.cell? ⟨b2, off2 + q, none⟩ = some (.int .i64 (i1 : Int))) := Lib.hid fun wq h1 => (h1.cell (p := ⟨b2, off2 + q, none⟩) hb).trans (by rw [hc, hi1]; rfl)
            have HC2 : Hid (∀ wq, Below w2.heap.size w2 wq → wq.cell? ⟨b2, off2 + (q + 1), none⟩ = some (.int .i64 (i2 : Int))) := Lib.hid fun wq h1 => (h1.cell (p := ⟨b2, off2 + (q + 1), none⟩) hb).trans (by rw [hc', hi2]; rfl)
            have HSX := Lib.hid (HSW.out h[i1] h[i2] (by rw [hi1]; exact List.getElem?_eq_getElem hl1) (by rw [hi2]; exact List.getElem?_eq_getElem hl3))
            generalize order[q] = o1 at *
            generalize order[q+1] = o2 at *
            obtain ⟨b, off, cap1, a4, c4, a5, c5, hv, _, _, hm4, hm5, hl4, hl5, hcell, r1, r2⟩ := HR.out.at2 hl1
            injection hv with e1 e2 e3
            subst e1
            obtain ⟨b', off', cap1', d4, k4, d5, k5, hv, _, _, n4, n5, l4, l5, hcell', s1, s2⟩ := HR.out.at2 hl3
            injection hv with e4 e5 e6
            injection e4 with e4
            injection e4 with e4 e7
            subst e4 e7
            have hii : (i1 : Int) < h.length := by omega
            have hi0 : (0 : Int) ≤ (i1 : Int) := by omega
            have hij : (i2 : Int) < h.length := by omega
            have hi02 : (0 : Int) ≤ (i2 : Int) := by omega
            have HN := Lib.hid (And.intro hcell (And.intro r1 r2))
            have HN2 := Lib.hid (And.intro hcell' (And.intro s1 s2))
            clear e2 e3 e5 e6 hcell r1 r2 hcell' s1 s2 hc hc' hb h1 h2 HX1 HSW
            generalize h[i1] = x at *
            generalize h[i2] = y at *
            have HOI := Lib.hid (And.intro hi1 hi2)
            clear hi1 hi2 HIX
            have K2 := Lib.hid (Below.refl w2.heap.size w2)
            by_cases hk : kindO x = kindO y
            · have ek := bne_f hk
              have HSL := Lib.hid (HSX.out hk)
              clear hk HSX
              go_wp2_with fail
              refine region_left [.is (.bool true), .is (.bool false), .is (.bool false), .is (.int .i64 (q : Int)), .is (.bool false), .is (.bool false), .is (.bool false), .is (.int .i64 (q : Int)), .is (.slice (some ⟨b2, off2, none⟩) order.length cap2), .is (.int .i64 order.length), .is (.int .i64 ((order.length : Int) - 1)), .is (.bool false), .is (.bool false), .is (.bool false), .is (.slice (some ⟨b, off, none⟩) h.length cap), .is (.slice (some ⟨b2, off2, none⟩) order.length cap2), .is (.int .i64 (q : Int)), .is (.pointer (some ⟨b2, off2 + q, none⟩)), .is (.int .i64 (i1 : Int)), .is (.pointer (some ⟨b, off + i1 * 6, none⟩)), .is (.pointer (some ⟨b, off + i1 * 6 + 1, none⟩)), .is (.int .i64 (kindO x)), .is (.slice (some ⟨b, off, none⟩) h.length cap), .is (.slice (some ⟨b2, off2, none⟩) order.length cap2), .is (.int .i64 (q : Int)), .is (.int .i64 ((q : Int) + 1)), .is (.pointer (some ⟨b2, off2 + (q + 1), none⟩)), .is (.int .i64 (i2 : Int)), .is (.pointer (some ⟨b, off + i2 * 6, none⟩)), .is (.pointer (some ⟨b, off + i2 * 6 + 1, none⟩)), .is (.int .i64 (kindO y)), .is (.bool false), .is (.bool false)] (by kernel_rfl) rfl (by kernel_rfl) (by kernel_rfl) (.cons ?q5_0 (.cons ?q5_1 (.cons ?q5_2 (.cons ?q5_3 (.cons ?q5_4 (.cons ?q5_5 (.cons ?q5_6 (.cons ?q5_7 (.cons ?q5_8 (.cons ?q5_9 (.cons ?q5_10 (.cons ?q5_11 (.cons ?q5_12 (.cons ?q5_13 (.cons ?q5_14 (.cons ?q5_15 (.cons ?q5_16 (.cons ?q5_17 (.cons ?q5_18 (.cons ?q5_19 (.cons ?q5_20 (.cons ?q5_21 (.cons ?q5_22 (.cons ?q5_23 (.cons ?q5_24 (.cons ?q5_25 (.cons ?q5_26 (.cons ?q5_27 (.cons ?q5_28 (.cons ?q5_29 (.cons ?q5_30 (.cons ?q5_31 (.cons ?q5_32 .nil))))))))))))))))))))))))))))))))) ?q5_fin
              case q5_0 =>
                intro wq hbw st  K hK
                have KQ := K2.out.trans (hbw.mono K2.out.size)
                simp only [Act.put, List.setIfInBounds_toArray, List.set_cons_zero, List.set_cons_succ] at hK ⊢
                unfold opStep
                rw [if_pos (by rfl)]
                go_simp
                exact hK.out _ _ (Below.refl _ _) rfl _ rfl
              case q5_1 =>
                intro wq hbw st  K hK
                have KQ := K2.out.trans (hbw.mono K2.out.size)
                simp only [Act.put, List.setIfInBounds_toArray, List.set_cons_zero, List.set_cons_succ] at hK ⊢
                unfold opStep
                rw [if_pos (by rfl)]
                go_simp
                exact hK.out _ _ (Below.refl _ _) rfl _ rfl
              case q5_2 =>
                intro wq hbw st  K hK
                have KQ := K2.out.trans (hbw.mono K2.out.size)
                simp only [Act.put, List.setIfInBounds_toArray, List.set_cons_zero, List.set_cons_succ] at hK ⊢
                unfold opStep
                rw [if_pos (by rfl)]
                go_simp
                exact hK.out _ _ (Below.refl _ _) rfl _ rfl
              case q5_3 =>
                intro wq hbw st  K hK
                have KQ := K2.out.trans (hbw.mono K2.out.size)
                simp only [Act.put, List.setIfInBounds_toArray, List.set_cons_zero, List.set_cons_succ] at hK ⊢
                unfold opStep
                rw [if_pos (by rfl)]
                go_simp
                exact hK.out _ _ (Below.refl _ _) rfl _ rfl
              case q5_4 =>
                intro wq hbw st  K hK
                have KQ := K2.out.trans (hbw.mono K2.out.size)
                simp only [Act.put, List.setIfInBounds_toArray, List.set_cons_zero, List.set_cons_succ] at hK ⊢
                unfold opStep
                rw [if_pos (by rfl)]
                go_simp
                exact hK.out _ _ (Below.refl _ _) rfl _ rfl
              case q5_5 =>
                intro wq hbw st  K hK
                have KQ := K2.out.trans (hbw.mono K2.out.size)
                simp only [Act.put, List.setIfInBounds_toArray, List.set_cons_zero, List.set_cons_succ] at hK ⊢
                unfold opStep
                rw [if_pos (by rfl)]
                go_simp
                exact hK.out _ _ (Below.refl _ _) rfl _ rfl
              case q5_6 =>
                intro wq hbw st  K hK
                have KQ := K2.out.trans (hbw.mono K2.out.size)
                simp only [Act.put, List.setIfInBounds_toArray, List.set_cons_zero, List.set_cons_succ] at hK ⊢
                unfold opStep
                rw [if_pos (by rfl)]
                go_simp
                exact hK.out _ _ (Below.refl _ _) rfl _ rfl
              case q5_7 =>
                intro wq hbw st  K hK
                have KQ := K2.out.trans (hbw.mono K2.out.size)
                simp only [Act.put, List.setIfInBounds_toArray, List.set_cons_zero, List.set_cons_succ] at hK ⊢
                unfold opStep
                rw [if_pos (by rfl)]
                go_simp
                exact hK.out _ _ (Below.refl _ _) rfl _ rfl
              case q5_8 =>
                intro wq hbw st  K hK
                have KQ := K2.out.trans (hbw.mono K2.out.size)
                simp only [Act.put, List.setIfInBounds_toArray, List.set_cons_zero, List.set_cons_succ] at hK ⊢
                unfold opStep
                rw [if_pos (by rfl)]
                go_simp
                exact hK.out _ _ (Below.refl _ _) rfl _ rfl
              case q5_9 =>
                intro wq hbw st  K hK
                have KQ := K2.out.trans (hbw.mono K2.out.size)
                simp only [Act.put, List.setIfInBounds_toArray, List.set_cons_zero, List.set_cons_succ] at hK ⊢
                unfold opStep
                rw [if_pos (by rfl)]
                go_simp
                exact hK.out _ _ (Below.refl _ _) rfl _ rfl
              case q5_10 =>
                intro wq hbw st  K hK
                have KQ := K2.out.trans (hbw.mono K2.out.size)
                simp only [Act.put, List.setIfInBounds_toArray, List.set_cons_zero, List.set_cons_succ] at hK ⊢
                unfold opStep
                rw [if_pos (by rfl)]
                go_simp
                exact hK.out _ _ (Below.refl _ _) rfl _ rfl
              case q5_11 =>
                intro wq hbw st  K hK
                have KQ := K2.out.trans (hbw.mono K2.out.size)
                simp only [Act.put, List.setIfInBounds_toArray, List.set_cons_zero, List.set_cons_succ] at hK ⊢
                unfold opStep
                rw [if_pos (by rfl)]
                go_simp
                exact hK.out _ _ (Below.refl _ _) rfl _ rfl
              case q5_12 =>
                intro wq hbw st  K hK
                have KQ := K2.out.trans (hbw.mono K2.out.size)
                simp only [Act.put, List.setIfInBounds_toArray, List.set_cons_zero, List.set_cons_succ] at hK ⊢
                unfold opStep
                rw [if_pos (by rfl)]
                go_simp
                exact hK.out _ _ (Below.refl _ _) rfl _ rfl
              case q5_13 =>
                intro wq hbw st  K hK
                have KQ := K2.out.trans (hbw.mono K2.out.size)
                simp only [Act.put, List.setIfInBounds_toArray, List.set_cons_zero, List.set_cons_succ] at hK ⊢
                unfold opStep
                rw [if_pos (by rfl)]
                go_simp
                exact hK.out _ _ (Below.refl _ _) rfl _ rfl
              case q5_14 =>
                intro wq hbw st  K hK
                have KQ := K2.out.trans (hbw.mono K2.out.size)
                simp only [Act.put, List.setIfInBounds_toArray, List.set_cons_zero, List.set_cons_succ] at hK ⊢
                unfold opStep
                rw [if_pos (by rfl)]
                go_simp
                exact hK.out _ _ (Below.refl _ _) rfl _ rfl
              case q5_15 =>
                intro wq hbw st  K hK
                have KQ := K2.out.trans (hbw.mono K2.out.size)
                simp only [Act.put, List.setIfInBounds_toArray, List.set_cons_zero, List.set_cons_succ] at hK ⊢
                unfold opStep
                rw [if_pos (by rfl)]
                go_simp
                exact hK.out _ _ (Below.refl _ _) rfl _ rfl
              case q5_16 =>
                intro wq hbw st  K hK
                have KQ := K2.out.trans (hbw.mono K2.out.size)
                simp only [Act.put, List.setIfInBounds_toArray, List.set_cons_zero, List.set_cons_succ] at hK ⊢
                unfold opStep
                rw [if_pos (by rfl)]
                go_simp
                exact hK.out _ _ (Below.refl _ _) rfl _ rfl
              case q5_17 =>
                intro wq hbw st  K hK
                have KQ := K2.out.trans (hbw.mono K2.out.size)
                simp only [Act.put, List.setIfInBounds_toArray, List.set_cons_zero, List.set_cons_succ] at hK ⊢
                unfold opStep
                rw [if_pos (by rfl)]
                go_simp
                exact hK.out _ _ (Below.refl _ _) rfl _ rfl
              case q5_18 =>
                intro wq hbw st  K hK
                have KQ := K2.out.trans (hbw.mono K2.out.size)
                simp only [Act.put, List.setIfInBounds_toArray, List.set_cons_zero, List.set_cons_succ] at hK ⊢
                unfold opStep
                rw [if_pos (by rfl)]
                have hcc := HC1.out wq KQ
                go_simp
                exact hK.out _ _ (Below.refl _ _) rfl _ rfl
              case q5_19 =>
                intro wq hbw st  K hK
                have KQ := K2.out.trans (hbw.mono K2.out.size)
                simp only [Act.put, List.setIfInBounds_toArray, List.set_cons_zero, List.set_cons_succ] at hK ⊢
                unfold opStep
                rw [if_pos (by rfl)]
                go_simp
                exact hK.out _ _ (Below.refl _ _) rfl _ rfl
              case q5_20 =>
                intro wq hbw st  K hK
                have KQ := K2.out.trans (hbw.mono K2.out.size)
                simp only [Act.put, List.setIfInBounds_toArray, List.set_cons_zero, List.set_cons_succ] at hK ⊢
                unfold opStep
                rw [if_pos (by rfl)]
                go_simp
                exact hK.out _ _ (Below.refl _ _) rfl _ rfl
              case q5_21 =>
                intro wq hbw st  K hK
                have KQ := K2.out.trans (hbw.mono K2.out.size)
                simp only [Act.put, List.setIfInBounds_toArray, List.set_cons_zero, List.set_cons_succ] at hK ⊢
                unfold opStep
                rw [if_pos (by rfl)]
                have dd := Lib.hid (HN.out.1 wq KQ)
                have d1 := dd.out.2.1
                go_simp
                exact hK.out _ _ (Below.refl _ _) rfl _ rfl
              case q5_22 =>
                intro wq hbw st  K hK
                have KQ := K2.out.trans (hbw.mono K2.out.size)
                simp only [Act.put, List.setIfInBounds_toArray, List.set_cons_zero, List.set_cons_succ] at hK ⊢
                unfold opStep
                rw [if_pos (by rfl)]
                go_simp
                exact hK.out _ _ (Below.refl _ _) rfl _ rfl
              case q5_23 =>
                intro wq hbw st  K hK
                have KQ := K2.out.trans (hbw.mono K2.out.size)
                simp only [Act.put, List.setIfInBounds_toArray, List.set_cons_zero, List.set_cons_succ] at hK ⊢
                unfold opStep
                rw [if_pos (by rfl)]
                go_simp
                exact hK.out _ _ (Below.refl _ _) rfl _ rfl
              case q5_24 =>
                intro wq hbw st  K hK
                have KQ := K2.out.trans (hbw.mono K2.out.size)
                simp only [Act.put, List.setIfInBounds_toArray, List.set_cons_zero, List.set_cons_succ] at hK ⊢
                unfold opStep
                rw [if_pos (by rfl)]
                go_simp
                exact hK.out _ _ (Below.refl _ _) rfl _ rfl
              case q5_25 =>
                intro wq hbw st  K hK
                have KQ := K2.out.trans (hbw.mono K2.out.size)
                simp only [Act.put, List.setIfInBounds_toArray, List.set_cons_zero, List.set_cons_succ] at hK ⊢
                unfold opStep
                rw [if_pos (by rfl)]
                go_simp
                exact hK.out _ _ (Below.refl _ _) rfl _ rfl
              case q5_26 =>
                intro wq hbw st  K hK
                have KQ := K2.out.trans (hbw.mono K2.out.size)
                simp only [Act.put, List.setIfInBounds_toArray, List.set_cons_zero, List.set_cons_succ] at hK ⊢
                unfold opStep
                rw [if_pos (by rfl)]
                go_simp
                exact hK.out _ _ (Below.refl _ _) rfl _ rfl
              case q5_27 =>
                intro wq hbw st  K hK
                have KQ := K2.out.trans (hbw.mono K2.out.size)
                simp only [Act.put, List.setIfInBounds_toArray, List.set_cons_zero, List.set_cons_succ] at hK ⊢
                unfold opStep
                rw [if_pos (by rfl)]
                have hcc := HC2.out wq KQ
                go_simp
                exact hK.out _ _ (Below.refl _ _) rfl _ rfl
              case q5_28 =>
                intro wq hbw st  K hK
                have KQ := K2.out.trans (hbw.mono K2.out.size)
                simp only [Act.put, List.setIfInBounds_toArray, List.set_cons_zero, List.set_cons_succ] at hK ⊢
                unfold opStep
                rw [if_pos (by rfl)]
                go_simp
                exact hK.out _ _ (Below.refl _ _) rfl _ rfl
              case q5_29 =>
                intro wq hbw st  K hK
                have KQ := K2.out.trans (hbw.mono K2.out.size)
                simp only [Act.put, List.setIfInBounds_toArray, List.set_cons_zero, List.set_cons_succ] at hK ⊢
                unfold opStep
                rw [if_pos (by rfl)]
                go_simp
                exact hK.out _ _ (Below.refl _ _) rfl _ rfl
              case q5_30 =>
                intro wq hbw st  K hK
                have KQ := K2.out.trans (hbw.mono K2.out.size)
                simp only [Act.put, List.setIfInBounds_toArray, List.set_cons_zero, List.set_cons_succ] at hK ⊢
                unfold opStep
                rw [if_pos (by rfl)]
                have dd := Lib.hid (HN2.out.1 wq KQ)
                have d1 := dd.out.2.1
                go_simp
                exact hK.out _ _ (Below.refl _ _) rfl _ rfl
              case q5_31 =>
                intro wq hbw st  K hK
                have KQ := K2.out.trans (hbw.mono K2.out.size)
                simp only [Act.put, List.setIfInBounds_toArray, List.set_cons_zero, List.set_cons_succ] at hK ⊢
                unfold opStep
                rw [if_pos (by rfl)]
                go_simp
                exact hK.out _ _ (Below.refl _ _) rfl _ rfl
              case q5_32 =>
                intro wq hbw st  K hK
                have KQ := K2.out.trans (hbw.mono K2.out.size)
                simp only [Act.put, List.setIfInBounds_toArray, List.set_cons_zero, List.set_cons_succ] at hK ⊢
                unfold opStep
                rw [if_pos (by rfl)]
                go_simp
                exact hK.out _ _ (Below.refl _ _) rfl _ rfl
              case q5_fin =>
                intro wq hbw
                try simp only [FinAll]
                simp only [Act.put, List.setIfInBounds_toArray, List.set_cons_zero, List.set_cons_succ]
                have KQ := Lib.hid hbw
                replace KW := Lib.hid (KW.out.trans (hbw.mono KW.out.size))
                have HRQ := Lib.hid (HR.out.on hbw)
                have HOQ := Lib.hid (HO.out.keep hbw)
                clear hbw HC1 HC2 HN HN2
                go_wp2_with (at_builtin; refine appendi_reads rfl (.tmp 60) (.tmp 61) rfl wq.heap.size _ (.slice (some ⟨b2, off2, none⟩) order.length cap2) 0 [] order rfl (World.ownsRow_made wq #[] 0 (Nat.le_refl _) (Nat.zero_le _) rfl) rfl (HOQ.out.keep ((Below.refl _ _).alloc (Nat.le_refl _) _)) (by omega) (by simp) ?_)
                intro v8 w8 hown8 hgr8
                try simp only [Nat.zero_add, List.nil_append] at hown8
                have KB := Lib.hid (below_row_grown ((Below.refl wq.heap.size wq).alloc (Nat.le_refl _) _) (Below.refl _ _) (World.ownsRow_made (e := 3) (size := 1) wq #[] 0 (Nat.le_refl _) (Nat.zero_le _) rfl) hgr8)
                obtain ⟨g, cap8, cur, rfl, hgn, hcap, hcm, hB, hsz, -, hxs⟩ := row_open (xs := order) hown8 (by omega)
                unfold maxLen at hcm
                have HBK := Lib.hid hB
                have HSB := Lib.hid (HSA.out cur hxs)
                have HSZ := Lib.hid (And.intro hsz hxs)
                have HXR : Hid (cur[q]? = some (.int .i64 o1)) := Lib.hid HSB.out.1
                have HXP : Hid (cur[q+1]? = some (.int .i64 o2)) := Lib.hid HSB.out.2.1
                have HXP2 : Hid ((cur.setIfInBounds q (.int .i64 o2))[q+1]? = some (.int .i64 o2)) := Lib.hid (by rw [Array.getElem?_setIfInBounds, if_neg (by omega)]; exact HXP.out)
                clear hown8 hgr8 hB hsz hxs HSA
                generalize o1 = xr at *
                generalize o2 = xp at *
                go_wp2_with fail
                refine region_inv wq.heap.size (JW g cur (cur.setIfInBounds q (.int .i64 xp)) ((cur.setIfInBounds q (.int .i64 xp)).setIfInBounds (q + 1) (.int .i64 xr))) [some (.slice (some ⟨g, 0, none⟩) order.length cap8), some (.int .i64 (q : Int)), some (.slice (some ⟨g, 0, none⟩) order.length cap8), some (.int .i64 (q : Int)), some (.int .i64 ((q : Int) + 1)), some (.slice (some ⟨g, 0, none⟩) order.length cap8), some (.int .i64 (q : Int)), some (.int .i64 ((q : Int) + 1)), some (.pointer (some ⟨g, (q + 1), none⟩)), some (.int .i64 xp), some (.slice (some ⟨g, 0, none⟩) order.length cap8), some (.int .i64 (q : Int)), some (.pointer (some ⟨g, q, none⟩)), some (.int .i64 xr), some (.pointer (some ⟨g, q, none⟩)), some undef, some (.pointer (some ⟨g, (q + 1), none⟩)), some undef] (by kernel_rfl) rfl (by kernel_rfl) (by kernel_rfl) (fun st => JW.start HBK.out st) (.cons ?s4_0 (.cons ?s4_1 (.cons ?s4_2 (.cons ?s4_3 (.cons ?s4_4 (.cons ?s4_5 (.cons ?s4_6 (.cons ?s4_7 (.cons ?s4_8 (.cons ?s4_9 (.cons ?s4_10 (.cons ?s4_11 (.cons ?s4_12 (.cons ?s4_13 (.cons ?s4_14 (.cons ?s4_15 (.cons ?s4_16 (.cons ?s4_17 .nil)))))))))))))))))) ?s4_fin
                case s4_0 =>
                  intro wq2 hbw D st hJ hD hdp K hK
                  simp only [Act.put, List.setIfInBounds_toArray, List.set_cons_zero, List.set_cons_succ] at hK ⊢
                  unfold opStep
                  rw [if_pos (by rfl)]
                  go_simp
                  exact hK.out _ _ (Below.refl _ _) (fun u hu => Option.some.inj hu) (hJ.pure 0 _ (by decide) (by decide)) _ rfl
                case s4_1 =>
                  intro wq2 hbw D st hJ hD hdp K hK
                  simp only [Act.put, List.setIfInBounds_toArray, List.set_cons_zero, List.set_cons_succ] at hK ⊢
                  unfold opStep
                  rw [if_pos (by rfl)]
                  go_simp
                  exact hK.out _ _ (Below.refl _ _) (fun u hu => Option.some.inj hu) (hJ.pure 1 _ (by decide) (by decide)) _ rfl
                case s4_2 =>
                  intro wq2 hbw D st hJ hD hdp K hK
                  simp only [Act.put, List.setIfInBounds_toArray, List.set_cons_zero, List.set_cons_succ] at hK ⊢
                  unfold opStep
                  rw [if_pos (by rfl)]
                  go_simp
                  exact hK.out _ _ (Below.refl _ _) (fun u hu => Option.some.inj hu) (hJ.pure 2 _ (by decide) (by decide)) _ rfl
                case s4_3 =>
                  intro wq2 hbw D st hJ hD hdp K hK
                  simp only [Act.put, List.setIfInBounds_toArray, List.set_cons_zero, List.set_cons_succ] at hK ⊢
                  unfold opStep
                  rw [if_pos (by rfl)]
                  go_simp
                  exact hK.out _ _ (Below.refl _ _) (fun u hu => Option.some.inj hu) (hJ.pure 3 _ (by decide) (by decide)) _ rfl
                case s4_4 =>
                  intro wq2 hbw D st hJ hD hdp K hK
                  simp only [Act.put, List.setIfInBounds_toArray, List.set_cons_zero, List.set_cons_succ] at hK ⊢
                  unfold opStep
                  rw [if_pos (by rfl)]
                  go_simp
                  exact hK.out _ _ (Below.refl _ _) (fun u hu => Option.some.inj hu) (hJ.pure 4 _ (by decide) (by decide)) _ rfl
                case s4_5 =>
                  intro wq2 hbw D st hJ hD hdp K hK
                  simp only [Act.put, List.setIfInBounds_toArray, List.set_cons_zero, List.set_cons_succ] at hK ⊢
                  unfold opStep
                  rw [if_pos (by rfl)]
                  go_simp
                  exact hK.out _ _ (Below.refl _ _) (fun u hu => Option.some.inj hu) (hJ.pure 5 _ (by decide) (by decide)) _ rfl
                case s4_6 =>
                  intro wq2 hbw D st hJ hD hdp K hK
                  simp only [Act.put, List.setIfInBounds_toArray, List.set_cons_zero, List.set_cons_succ] at hK ⊢
                  unfold opStep
                  rw [if_pos (by rfl)]
                  go_simp
                  exact hK.out _ _ (Below.refl _ _) (fun u hu => Option.some.inj hu) (hJ.pure 6 _ (by decide) (by decide)) _ rfl
                case s4_7 =>
                  intro wq2 hbw D st hJ hD hdp K hK
                  simp only [Act.put, List.setIfInBounds_toArray, List.set_cons_zero, List.set_cons_succ] at hK ⊢
                  unfold opStep
                  rw [if_pos (by rfl)]
                  go_simp
                  exact hK.out _ _ (Below.refl _ _) (fun u hu => Option.some.inj hu) (hJ.pure 7 _ (by decide) (by decide)) _ rfl
                case s4_8 =>
                  intro wq2 hbw D st hJ hD hdp K hK
                  simp only [Act.put, List.setIfInBounds_toArray, List.set_cons_zero, List.set_cons_succ] at hK ⊢
                  unfold opStep
                  rw [if_pos (by rfl)]
                  go_simp
                  exact hK.out _ _ (Below.refl _ _) (fun u hu => Option.some.inj hu) (hJ.pure 8 _ (by decide) (by decide)) _ rfl
                case s4_9 =>
                  intro wq2 hbw D st hJ hD hdp K hK
                  simp only [Act.put, List.setIfInBounds_toArray, List.set_cons_zero, List.set_cons_succ] at hK ⊢
                  unfold opStep
                  rw [if_pos (by rfl)]
                  have hA := hJ.atA (hJ.no9 hD)
                  have cc := (hA.cell (q + 1)).trans HXP.out
                  go_simp
                  exact hK.out _ _ (Below.refl _ _) (fun u hu => Option.some.inj hu) (hJ.pure 9 _ (by decide) (by decide)) _ rfl
                case s4_10 =>
                  intro wq2 hbw D st hJ hD hdp K hK
                  simp only [Act.put, List.setIfInBounds_toArray, List.set_cons_zero, List.set_cons_succ] at hK ⊢
                  unfold opStep
                  rw [if_pos (by rfl)]
                  go_simp
                  exact hK.out _ _ (Below.refl _ _) (fun u hu => Option.some.inj hu) (hJ.pure 10 _ (by decide) (by decide)) _ rfl
                case s4_11 =>
                  intro wq2 hbw D st hJ hD hdp K hK
                  simp only [Act.put, List.setIfInBounds_toArray, List.set_cons_zero, List.set_cons_succ] at hK ⊢
                  unfold opStep
                  rw [if_pos (by rfl)]
                  go_simp
                  exact hK.out _ _ (Below.refl _ _) (fun u hu => Option.some.inj hu) (hJ.pure 11 _ (by decide) (by decide)) _ rfl
                case s4_12 =>
                  intro wq2 hbw D st hJ hD hdp K hK
                  simp only [Act.put, List.setIfInBounds_toArray, List.set_cons_zero, List.set_cons_succ] at hK ⊢
                  unfold opStep
                  rw [if_pos (by rfl)]
                  go_simp
                  exact hK.out _ _ (Below.refl _ _) (fun u hu => Option.some.inj hu) (hJ.pure 12 _ (by decide) (by decide)) _ rfl
                case s4_13 =>
                  intro wq2 hbw D st hJ hD hdp K hK
                  simp only [Act.put, List.setIfInBounds_toArray, List.set_cons_zero, List.set_cons_succ] at hK ⊢
                  unfold opStep
                  rw [if_pos (by rfl)]
                  have hA := hJ.atA (hJ.no13 hD)
                  have cc := (hA.cell q).trans HXR.out
                  go_simp
                  exact hK.out _ _ (Below.refl _ _) (fun u hu => Option.some.inj hu) (hJ.pure 13 _ (by decide) (by decide)) _ rfl
                case s4_14 =>
                  intro wq2 hbw D st hJ hD hdp K hK
                  simp only [Act.put, List.setIfInBounds_toArray, List.set_cons_zero, List.set_cons_succ] at hK ⊢
                  unfold opStep
                  rw [if_pos (by rfl)]
                  go_simp
                  exact hK.out _ _ (Below.refl _ _) (fun u hu => Option.some.inj hu) (hJ.pure 14 _ (by decide) (by decide)) _ rfl
                case s4_15 =>
                  intro wq2 hbw D st hJ hD hdp K hK
                  simp only [Act.put, List.setIfInBounds_toArray, List.set_cons_zero, List.set_cons_succ] at hK ⊢
                  unfold opStep
                  rw [if_pos (by rfl)]
                  have hA := hJ.atA hD
                  have cc := (hA.cell q).trans HXR.out
                  have ff := hA.frozen q
                  go_simp
                  exact hK.out _ _ ((Below.refl _ _).setCell hgn _) (fun u hu => Option.some.inj hu) (hJ.s15 hD (hdp 9 (of_decide_eq_true (by kernel_rfl))) (hdp 13 (of_decide_eq_true (by kernel_rfl))) (hA.set_ q _) _) _ rfl
                case s4_16 =>
                  intro wq2 hbw D st hJ hD hdp K hK
                  simp only [Act.put, List.setIfInBounds_toArray, List.set_cons_zero, List.set_cons_succ] at hK ⊢
                  unfold opStep
                  rw [if_pos (by rfl)]
                  go_simp
                  exact hK.out _ _ (Below.refl _ _) (fun u hu => Option.some.inj hu) (hJ.pure 16 _ (by decide) (by decide)) _ rfl
                case s4_17 =>
                  intro wq2 hbw D st hJ hD hdp K hK
                  simp only [Act.put, List.setIfInBounds_toArray, List.set_cons_zero, List.set_cons_succ] at hK ⊢
                  unfold opStep
                  rw [if_pos (by rfl)]
                  have hA := hJ.atB (hdp 15 (of_decide_eq_true (by kernel_rfl))) hD
                  have cc := (hA.cell (q + 1)).trans HXP2.out
                  have ff := hA.frozen (q + 1)
                  go_simp
                  exact hK.out _ _ ((Below.refl _ _).setCell hgn _) (fun u hu => Option.some.inj hu) (hJ.s17 (hdp 15 (of_decide_eq_true (by kernel_rfl))) (hA.set_ (q + 1) _) _) _ rfl
                case s4_fin =>
                  intro wq2 hbw D st hall hJ
                  simp only [FinAll, lfOf]
                  simp only [Act.put, List.setIfInBounds_toArray, List.set_cons_zero, List.set_cons_succ]
                  have HC := Lib.hid (hJ.fin fun j hj => hall j (by simpa using hj))
                  clear hJ hall
                  have HRD : Hid (Reads vi wq2 (.slice (some ⟨g, 0, none⟩) order.length cap8) ((order.set q xp).set (q + 1) xr)) := Lib.hid (by
                    have h0 := row_close (xs := (order.set q xp).set (q + 1) xr) (Nat.le_refl g) hcap (by unfold maxLen; exact hcm) HC.out (by simpa using HSZ.out.1) (by simp) HSB.out.2.2
                    exact Reads.of_owns h0)
                  replace KB := Lib.hid (KB.out.trans hbw)
                  replace KW := Lib.hid (KW.out.trans (KB.out.mono KW.out.size))
                  have HR8 := Lib.hid (HRQ.out.on KB.out)
                  clear hbw KB HC HBK HSB HSZ HXR HXP HXP2
                  go_wp2_with fail
                  refine (awake_any _).mono ?_
                  rintro e w1 ⟨rfl, hb⟩
                  replace HR8 := Lib.hid (HR8.out.on hb)
                  replace HRD := Lib.hid (HRD.out.keep hb)
                  replace KW := Lib.hid (KW.out.trans (hb.mono KW.out.size))
                  clear hb
                  go_wp2_with fail
                  refine (legal_any _ _ h ((order.set q xp).set (q + 1) xr) _ HR8.out HRD.out HS.out (by simp; omega)).mono ?_
                  rintro e w2 ⟨rfl, hb⟩
                  replace HR8 := Lib.hid (HR8.out.on hb)
                  replace HRD := Lib.hid (HRD.out.keep hb)
                  replace KW := Lib.hid (KW.out.trans (hb.mono KW.out.size))
                  clear hb
                  rw [HSL.out]
                  go_wp2
                  go_ret
                  exact ⟨rfl, KW.out⟩
            · have ek := bne_t hk
              clear hk HSX
              go_wp2_with fail
              refine region_left [.is (.bool true), .is (.bool false), .is (.bool false), .is (.int .i64 (q : Int)), .is (.bool false), .is (.bool false), .is (.bool false), .is (.int .i64 (q : Int)), .is (.slice (some ⟨b2, off2, none⟩) order.length cap2), .is (.int .i64 order.length), .is (.int .i64 ((order.length : Int) - 1)), .is (.bool false), .is (.bool false), .is (.bool false), .is (.slice (some ⟨b, off, none⟩) h.length cap), .is (.slice (some ⟨b2, off2, none⟩) order.length cap2), .is (.int .i64 (q : Int)), .is (.pointer (some ⟨b2, off2 + q, none⟩)), .is (.int .i64 (i1 : Int)), .is (.pointer (some ⟨b, off + i1 * 6, none⟩)), .is (.pointer (some ⟨b, off + i1 * 6 + 1, none⟩)), .is (.int .i64 (kindO x)), .is (.slice (some ⟨b, off, none⟩) h.length cap), .is (.slice (some ⟨b2, off2, none⟩) order.length cap2), .is (.int .i64 (q : Int)), .is (.int .i64 ((q : Int) + 1)), .is (.pointer (some ⟨b2, off2 + (q + 1), none⟩)), .is (.int .i64 (i2 : Int)), .is (.pointer (some ⟨b, off + i2 * 6, none⟩)), .is (.pointer (some ⟨b, off + i2 * 6 + 1, none⟩)), .is (.int .i64 (kindO y)), .is (.bool true), .is (.bool true)] (by kernel_rfl) rfl (by kernel_rfl) (by kernel_rfl) (.cons ?q6_0 (.cons ?q6_1 (.cons ?q6_2 (.cons ?q6_3 (.cons ?q6_4 (.cons ?q6_5 (.cons ?q6_6 (.cons ?q6_7 (.cons ?q6_8 (.cons ?q6_9 (.cons ?q6_10 (.cons ?q6_11 (.cons ?q6_12 (.cons ?q6_13 (.cons ?q6_14 (.cons ?q6_15 (.cons ?q6_16 (.cons ?q6_17 (.cons ?q6_18 (.cons ?q6_19 (.cons ?q6_20 (.cons ?q6_21 (.cons ?q6_22 (.cons ?q6_23 (.cons ?q6_24 (.cons ?q6_25 (.cons ?q6_26 (.cons ?q6_27 (.cons ?q6_28 (.cons ?q6_29 (.cons ?q6_30 (.cons ?q6_31 (.cons ?q6_32 .nil))))))))))))))))))))))))))))))))) ?q6_fin
              case q6_0 =>
                intro wq hbw st  K hK
                have KQ := K2.out.trans (hbw.mono K2.out.size)
                simp only [Act.put, List.setIfInBounds_toArray, List.set_cons_zero, List.set_cons_succ] at hK ⊢
                unfold opStep
                rw [if_pos (by rfl)]
                go_simp
                exact hK.out _ _ (Below.refl _ _) rfl _ rfl
              case q6_1 =>
                intro wq hbw st  K hK
                have KQ := K2.out.trans (hbw.mono K2.out.size)
                simp only [Act.put, List.setIfInBounds_toArray, List.set_cons_zero, List.set_cons_succ] at hK ⊢
                unfold opStep
                rw [if_pos (by rfl)]
                go_simp
                exact hK.out _ _ (Below.refl _ _) rfl _ rfl
              case q6_2 =>
                intro wq hbw st  K hK
                have KQ := K2.out.trans (hbw.mono K2.out.size)
                simp only [Act.put, List.setIfInBounds_toArray, List.set_cons_zero, List.set_cons_succ] at hK ⊢
                unfold opStep
                rw [if_pos (by rfl)]
                go_simp
                exact hK.out _ _ (Below.refl _ _) rfl _ rfl
              case q6_3 =>
                intro wq hbw st  K hK
                have KQ := K2.out.trans (hbw.mono K2.out.size)
                simp only [Act.put, List.setIfInBounds_toArray, List.set_cons_zero, List.set_cons_succ] at hK ⊢
                unfold opStep
                rw [if_pos (by rfl)]
                go_simp
                exact hK.out _ _ (Below.refl _ _) rfl _ rfl
              case q6_4 =>
                intro wq hbw st  K hK
                have KQ := K2.out.trans (hbw.mono K2.out.size)
                simp only [Act.put, List.setIfInBounds_toArray, List.set_cons_zero, List.set_cons_succ] at hK ⊢
                unfold opStep
                rw [if_pos (by rfl)]
                go_simp
                exact hK.out _ _ (Below.refl _ _) rfl _ rfl
              case q6_5 =>
                intro wq hbw st  K hK
                have KQ := K2.out.trans (hbw.mono K2.out.size)
                simp only [Act.put, List.setIfInBounds_toArray, List.set_cons_zero, List.set_cons_succ] at hK ⊢
                unfold opStep
                rw [if_pos (by rfl)]
                go_simp
                exact hK.out _ _ (Below.refl _ _) rfl _ rfl
              case q6_6 =>
                intro wq hbw st  K hK
                have KQ := K2.out.trans (hbw.mono K2.out.size)
                simp only [Act.put, List.setIfInBounds_toArray, List.set_cons_zero, List.set_cons_succ] at hK ⊢
                unfold opStep
                rw [if_pos (by rfl)]
                go_simp
                exact hK.out _ _ (Below.refl _ _) rfl _ rfl
              case q6_7 =>
                intro wq hbw st  K hK
                have KQ := K2.out.trans (hbw.mono K2.out.size)
                simp only [Act.put, List.setIfInBounds_toArray, List.set_cons_zero, List.set_cons_succ] at hK ⊢
                unfold opStep
                rw [if_pos (by rfl)]
                go_simp
                exact hK.out _ _ (Below.refl _ _) rfl _ rfl
              case q6_8 =>
                intro wq hbw st  K hK
                have KQ := K2.out.trans (hbw.mono K2.out.size)
                simp only [Act.put, List.setIfInBounds_toArray, List.set_cons_zero, List.set_cons_succ] at hK ⊢
                unfold opStep
                rw [if_pos (by rfl)]
                go_simp
                exact hK.out _ _ (Below.refl _ _) rfl _ rfl
              case q6_9 =>
                intro wq hbw st  K hK
                have KQ := K2.out.trans (hbw.mono K2.out.size)
                simp only [Act.put, List.setIfInBounds_toArray, List.set_cons_zero, List.set_cons_succ] at hK ⊢
                unfold opStep
                rw [if_pos (by rfl)]
                go_simp
                exact hK.out _ _ (Below.refl _ _) rfl _ rfl
              case q6_10 =>
                intro wq hbw st  K hK
                have KQ := K2.out.trans (hbw.mono K2.out.size)
                simp only [Act.put, List.setIfInBounds_toArray, List.set_cons_zero, List.set_cons_succ] at hK ⊢
                unfold opStep
                rw [if_pos (by rfl)]
                go_simp
                exact hK.out _ _ (Below.refl _ _) rfl _ rfl
              case q6_11 =>
                intro wq hbw st  K hK
                have KQ := K2.out.trans (hbw.mono K2.out.size)
                simp only [Act.put, List.setIfInBounds_toArray, List.set_cons_zero, List.set_cons_succ] at hK ⊢
                unfold opStep
                rw [if_pos (by rfl)]
                go_simp
                exact hK.out _ _ (Below.refl _ _) rfl _ rfl
              case q6_12 =>
                intro wq hbw st  K hK
                have KQ := K2.out.trans (hbw.mono K2.out.size)
                simp only [Act.put, List.setIfInBounds_toArray, List.set_cons_zero, List.set_cons_succ] at hK ⊢
                unfold opStep
                rw [if_pos (by rfl)]
                go_simp
                exact hK.out _ _ (Below.refl _ _) rfl _ rfl
              case q6_13 =>
                intro wq hbw st  K hK
                have KQ := K2.out.trans (hbw.mono K2.out.size)
                simp only [Act.put, List.setIfInBounds_toArray, List.set_cons_zero, List.set_cons_succ] at hK ⊢
                unfold opStep
                rw [if_pos (by rfl)]
                go_simp
                exact hK.out _ _ (Below.refl _ _) rfl _ rfl
              case q6_14 =>
                intro wq hbw st  K hK
                have KQ := K2.out.trans (hbw.mono K2.out.size)
                simp only [Act.put, List.setIfInBounds_toArray, List.set_cons_zero, List.set_cons_succ] at hK ⊢
                unfold opStep
                rw [if_pos (by rfl)]
                go_simp
                exact hK.out _ _ (Below.refl _ _) rfl _ rfl
              case q6_15 =>
                intro wq hbw st  K hK
                have KQ := K2.out.trans (hbw.mono K2.out.size)
                simp only [Act.put, List.setIfInBounds_toArray, List.set_cons_zero, List.set_cons_succ] at hK ⊢
                unfold opStep
                rw [if_pos (by rfl)]
                go_simp
                exact hK.out _ _ (Below.refl _ _) rfl _ rfl
              case q6_16 =>
                intro wq hbw st  K hK
                have KQ := K2.out.trans (hbw.mono K2.out.size)
                simp only [Act.put, List.setIfInBounds_toArray, List.set_cons_zero, List.set_cons_succ] at hK ⊢
                unfold opStep
                rw [if_pos (by rfl)]
                go_simp
                exact hK.out _ _ (Below.refl _ _) rfl _ rfl
              case q6_17 =>
                intro wq hbw st  K hK
                have KQ := K2.out.trans (hbw.mono K2.out.size)
                simp only [Act.put, List.setIfInBounds_toArray, List.set_cons_zero, List.set_cons_succ] at hK ⊢
                unfold opStep
                rw [if_pos (by rfl)]
                go_simp
                exact hK.out _ _ (Below.refl _ _) rfl _ rfl
              case q6_18 =>
                intro wq hbw st  K hK
                have KQ := K2.out.trans (hbw.mono K2.out.size)
                simp only [Act.put, List.setIfInBounds_toArray, List.set_cons_zero, List.set_cons_succ] at hK ⊢
                unfold opStep
                rw [if_pos (by rfl)]
                have hcc := HC1.out wq KQ
                go_simp
                exact hK.out _ _ (Below.refl _ _) rfl _ rfl
              case q6_19 =>
                intro wq hbw st  K hK
                have KQ := K2.out.trans (hbw.mono K2.out.size)
                simp only [Act.put, List.setIfInBounds_toArray, List.set_cons_zero, List.set_cons_succ] at hK ⊢
                unfold opStep
                rw [if_pos (by rfl)]
                go_simp
                exact hK.out _ _ (Below.refl _ _) rfl _ rfl
              case q6_20 =>
                intro wq hbw st  K hK
                have KQ := K2.out.trans (hbw.mono K2.out.size)
                simp only [Act.put, List.setIfInBounds_toArray, List.set_cons_zero, List.set_cons_succ] at hK ⊢
                unfold opStep
                rw [if_pos (by rfl)]
                go_simp
                exact hK.out _ _ (Below.refl _ _) rfl _ rfl
              case q6_21 =>
                intro wq hbw st  K hK
                have KQ := K2.out.trans (hbw.mono K2.out.size)
                simp only [Act.put, List.setIfInBounds_toArray, List.set_cons_zero, List.set_cons_succ] at hK ⊢
                unfold opStep
                rw [if_pos (by rfl)]
                have dd := Lib.hid (HN.out.1 wq KQ)
                have d1 := dd.out.2.1
                go_simp
                exact hK.out _ _ (Below.refl _ _) rfl _ rfl
              case q6_22 =>
                intro wq hbw st  K hK
                have KQ := K2.out.trans (hbw.mono K2.out.size)
                simp only [Act.put, List.setIfInBounds_toArray, List.set_cons_zero, List.set_cons_succ] at hK ⊢
                unfold opStep
                rw [if_pos (by rfl)]
                go_simp
                exact hK.out _ _ (Below.refl _ _) rfl _ rfl
              case q6_23 =>
                intro wq hbw st  K hK
                have KQ := K2.out.trans (hbw.mono K2.out.size)
                simp only [Act.put, List.setIfInBounds_toArray, List.set_cons_zero, List.set_cons_succ] at hK ⊢
                unfold opStep
                rw [if_pos (by rfl)]
                go_simp
                exact hK.out _ _ (Below.refl _ _) rfl _ rfl
              case q6_24 =>
                intro wq hbw st  K hK
                have KQ := K2.out.trans (hbw.mono K2.out.size)
                simp only [Act.put, List.setIfInBounds_toArray, List.set_cons_zero, List.set_cons_succ] at hK ⊢
                unfold opStep
                rw [if_pos (by rfl)]
                go_simp
                exact hK.out _ _ (Below.refl _ _) rfl _ rfl
              case q6_25 =>
                intro wq hbw st  K hK
                have KQ := K2.out.trans (hbw.mono K2.out.size)
                simp only [Act.put, List.setIfInBounds_toArray, List.set_cons_zero, List.set_cons_succ] at hK ⊢
                unfold opStep
                rw [if_pos (by rfl)]
                go_simp
                exact hK.out _ _ (Below.refl _ _) rfl _ rfl
              case q6_26 =>
                intro wq hbw st  K hK
                have KQ := K2.out.trans (hbw.mono K2.out.size)
                simp only [Act.put, List.setIfInBounds_toArray, List.set_cons_zero, List.set_cons_succ] at hK ⊢
                unfold opStep
                rw [if_pos (by rfl)]
                go_simp
                exact hK.out _ _ (Below.refl _ _) rfl _ rfl
              case q6_27 =>
                intro wq hbw st  K hK
                have KQ := K2.out.trans (hbw.mono K2.out.size)
                simp only [Act.put, List.setIfInBounds_toArray, List.set_cons_zero, List.set_cons_succ] at hK ⊢
                unfold opStep
                rw [if_pos (by rfl)]
                have hcc := HC2.out wq KQ
                go_simp
                exact hK.out _ _ (Below.refl _ _) rfl _ rfl
              case q6_28 =>
                intro wq hbw st  K hK
                have KQ := K2.out.trans (hbw.mono K2.out.size)
                simp only [Act.put, List.setIfInBounds_toArray, List.set_cons_zero, List.set_cons_succ] at hK ⊢
                unfold opStep
                rw [if_pos (by rfl)]
                go_simp
                exact hK.out _ _ (Below.refl _ _) rfl _ rfl
              case q6_29 =>
                intro wq hbw st  K hK
                have KQ := K2.out.trans (hbw.mono K2.out.size)
                simp only [Act.put, List.setIfInBounds_toArray, List.set_cons_zero, List.set_cons_succ] at hK ⊢
                unfold opStep
                rw [if_pos (by rfl)]
                go_simp
                exact hK.out _ _ (Below.refl _ _) rfl _ rfl
              case q6_30 =>
                intro wq hbw st  K hK
                have KQ := K2.out.trans (hbw.mono K2.out.size)
                simp only [Act.put, List.setIfInBounds_toArray, List.set_cons_zero, List.set_cons_succ] at hK ⊢
                unfold opStep
                rw [if_pos (by rfl)]
                have dd := Lib.hid (HN2.out.1 wq KQ)
                have d1 := dd.out.2.1
                go_simp
                exact hK.out _ _ (Below.refl _ _) rfl _ rfl
              case q6_31 =>
                intro wq hbw st  K hK
                have KQ := K2.out.trans (hbw.mono K2.out.size)
                simp only [Act.put, List.setIfInBounds_toArray, List.set_cons_zero, List.set_cons_succ] at hK ⊢
                unfold opStep
                rw [if_pos (by rfl)]
                go_simp
                exact hK.out _ _ (Below.refl _ _) rfl _ rfl
              case q6_32 =>
                intro wq hbw st  K hK
                have KQ := K2.out.trans (hbw.mono K2.out.size)
                simp only [Act.put, List.setIfInBounds_toArray, List.set_cons_zero, List.set_cons_succ] at hK ⊢
                unfold opStep
                rw [if_pos (by rfl)]
                go_simp
                exact hK.out _ _ (Below.refl _ _) rfl _ rfl
              case q6_fin =>
                intro wq hbw
                try simp only [FinAll]
                simp only [Act.put, List.setIfInBounds_toArray, List.set_cons_zero, List.set_cons_succ]
                replace KW := Lib.hid (KW.out.trans (hbw.mono KW.out.size))
                clear hbw
                go_wp2_with fail
                refine (awake_any _).mono ?_
                rintro e w1 ⟨rfl, hb⟩
                replace KW := Lib.hid (KW.out.trans (hb.mono KW.out.size))
                clear hb
                go_wp2
                go_ret
                exact ⟨rfl, KW.out⟩
    · have hleni : (30 : Int) < order.length := by omega
      go_wp2_with fail
      refine (awake_any _).mono ?_
      rintro e w1 ⟨rfl, hb⟩
      replace HR := Lib.hid (HR.out.on hb)
      replace HO := Lib.hid (HO.out.keep hb)
      replace KW := Lib.hid (KW.out.trans (hb.mono KW.out.size))
      clear hb
      go_wp2
      go_ret
      exact ⟨rfl, KW.out⟩
  · rw [Bool.eq_false_iff.2 hs] at HSM
    clear hs
    go_wp2_with fail
    refine HSM.out.mono ?_
    rintro e w1 ⟨rfl, rfl⟩
    go_wp2_with fail
    refine (awake_any _).mono ?_
    rintro e w2 ⟨rfl, hb⟩
    have HB := Lib.hid hb
    clear hb
    go_wp2
    go_ret
    exact ⟨rfl, HB.out⟩

set_option maxRecDepth 100000 in
theorem lifted (os : Os) (started : os.Started) (H : Type) (enc : TypeId × Value → H) :
    ReturnsInHanded {} Try.checked os 6 .any (Rows.historyLegalSpec.pre6 enc Try.prog Try.f6 Rows.historyLegalRow.domain false) (Rows.historyLegalSpec.post enc Try.prog Try.f6 false true false false) := by
  refine returnsInHanded_of_change (C := Try.checked) own started (by kernel_rfl) Try.func6
    (ChangeSpec.witness6 (enc := enc) (C := Try.checked) false ⟨#[], #[.slice none 0 0, .slice none 0 0, .int .i64 0], []⟩ 8 (by kernel_rfl) (by kernel_rfl) (by kernel_rfl) (by kernel_rfl)) ?_
  intro W base args ds gs before hval0 hW hcnd _
  have hval : ∀ (j : Nat) t v, Try.f6.params[j]? = some t → args[j]? = some v → Value.okWide Try.prog W .any base t v := hval0
  have hW' := hW
  obtain ⟨p, q, hA0, hV, rfl, hfz, hnd⟩ := hW
  have hA : DataW.TrodAll enc Try.prog W 0 (fun _ => true) true Try.f6.params.toList args.toList ds p := hA0
  rw [Try.params6] at hA hval
  obtain ⟨v0, vs0, d0, ds0, p0, q0, hargs, rfl, rfl, t0, r0⟩ := trodAll_cons hA
  obtain ⟨v1, vs1, d1, ds1, p1, q1, rfl, rfl, rfl, t1, r1⟩ := trodAll_cons r0
  obtain ⟨v2, vs2, d2, ds2, p2, q2, rfl, rfl, rfl, t2, r2⟩ := trodAll_cons r1
  obtain ⟨rfl, rfl, rfl⟩ := trodAll_nil r2
  obtain rfl : args = #[v0, v1, v2] := by cases args; simp_all
  obtain ⟨rfl, rfl⟩ := trodVars_none hV
  obtain ⟨x0, h0⟩ := open_ops (hval 0 22 v0 rfl rfl) t0
  obtain ⟨x1, h1⟩ := open_ilist (hval 1 37 v1 rfl rfl) t1
  obtain ⟨x2, rfl, _, _, w2⟩ := open_int Try.underlying3 (hval 2 3 v2 rfl rfl) t2
  refine (walk v0 v1 x0 x1 x2 W h0 h1).mono fun e W' ⟨he, hb⟩ => ?_
  subst he
  exact ⟨_, rfl, law_post laidOut rfl (fun _ _ => rfl) (by kernel_rfl) Try.underlying4 (by rw [Try.params6]; exact fun t ht => by simp at ht; rcases ht with  rfl | rfl | rfl ; all_goals exact ⟨by kernel_rfl, of_decide_eq_true (by kernel_rfl)⟩) hW' hb⟩

theorem over : Rows.historyLegalRow.holds Try.pinned (OpenSpec.ofChange Rows.historyLegalSpec) :=
  OpenClaim.holds_of_wide 6 Try.f6 rfl rfl rfl rfl rfl rfl rfl ⟨rfl, rfl, rfl, rfl, rfl⟩ rfl rfl rfl rfl rfl (by kernel_rfl) Try.func6 (by kernel_rfl)
    (of_decide_eq_true (by kernel_rfl)) (by unfold Func.isWrapper; first | (rw [if_pos (by decide +kernel)]; kernel_rfl) | (rw [if_neg (by decide +kernel)]; exact ⟨rfl, rfl⟩))
    (fun os started H enc _ => lifted os started H enc)

theorem proved : Rows.HistoryLegalSaid := over
end Go.Proofs.Ytnpfalloelmflaa.historyLegal
