/-
  Chapter 39: wide; what the laws of the enumeration share.
-/
import Derived.Test.YtahpecbcpgjinaaIh
import Derived.Test.YtahpecbcpgjinaaIk
import Derived.Test.YtahpecbcpgjinaaIl
namespace Go.Proofs.Ytahpecbcpgjinaa
open Go.RowKit

def wideB (R : Int) (F : List Int) (B C : List Cmd) : Bool := largeB F B C || decide ((7 : Int) < ((confL R C).length : Int) - ((confL R B).length : Int))
theorem wide_no {R : Int} {F : List Int} {B C : List Cmd} (h : wideB R F B C = false) : B.length ≤ 40 ∧ C.length ≤ 40 ∧ (confL R C).length ≤ (confL R B).length + 7 := by
  unfold wideB at h
  rw [Bool.or_eq_false_iff] at h
  obtain ⟨h1, h2⟩ := h
  unfold largeB at h1
  simp only [Bool.or_eq_false_iff, decide_eq_false_iff_not] at h1 h2
  omega
theorem same31_t {v u : Value} {xs : List Int} {w : World} (hr : Reads vi w v xs) (hs : Reads vi w u xs) : Calls Try.prog 15 #[v, u] w (BoolMade w true) :=
  (same31_any v u xs xs w hr hs).mono fun _ _ ⟨h1, h2⟩ => ⟨by rw [h1, decide_eq_true rfl], h2.below⟩

set_option maxRecDepth 100000 in
set_option maxHeartbeats 4000000 in
theorem wide_any (g vB vC : Value) (M R : Int) (F : List Int) (B C : List Cmd) (W : World) (hg : Gen W g M R F) (hb : ReadsC W vB B) (hc : ReadsC W vC C) :
    Calls Try.prog 18 #[g, vB, vC] W (BoolMade W (wideB R F B C)) := by
  have HG := Lib.hid (And.intro hg (And.intro hb hc))
  obtain ⟨vF, cl, vA, vO, rfl, hF, ⟨a2, n2, k2, rfl⟩, ⟨a3, n3, k3, rfl⟩⟩ := hg
  obtain ⟨a1, n1, k1, rfl⟩ := Slc.of_reads hF
  clear hF hb hc
  unfold gen at *
  by_cases hl : largeB F B C = true
  · have HL := Lib.hid hl
    have HR : Hid (wideB R F B C = true) := Lib.hid (by unfold wideB; rw [hl]; rfl)
    clear hl
    go_enter Try.func18, Try.ntmps18
    go_wp2
    have KB := Lib.hid (Blk.new W 25 #[.int .i64 M, .int .i64 R, .slice a1 n1 k1, .int .i64 cl, .slice a2 n2 k2, .slice a3 n3 k3])
    have KW := Lib.hid ((Below.refl W.heap.size W).alloc (Nat.le_refl _) (.cells #[.int .i64 M, .int .i64 R, .slice a1 n1 k1, .int .i64 cl, .slice a2 n2 k2, .slice a3 n3 k3] 25))
    generalize hw1 : World.alloc W _ = w1 at KB KW ⊢
    clear hw1
    refine region_left [.is (.agg #[.int .i64 M, .int .i64 R, .slice a1 n1 k1, .int .i64 cl, .slice a2 n2 k2, .slice a3 n3 k3]), .is vB, .is vC, .is (.bool true), .is (.bool true), .is undef, .is undef, .is undef, .is undef, .is undef, .is undef, .is undef, .is undef, .is undef, .is undef, .is (.bool true), .is (.bool true)] (by kernel_rfl) rfl (by kernel_rfl) (by kernel_rfl) (.cons ?q0 (.cons ?q1 (.cons ?q2 (.cons ?q3 (.cons ?q4 (.cons ?q5 (.cons ?q6 (.cons ?q7 (.cons ?q8 (.cons ?q9 (.cons ?q10 (.cons ?q11 (.cons ?q12 (.cons ?q13 (.cons ?q14 (.cons ?q15 (.cons ?q16 .nil))))))))))))))))) ?qfin
    case q0 =>
      intro wq hbw st  K hK
      have KQ := KW.out.trans (hbw.mono KW.out.size)
      simp only [Act.put, List.setIfInBounds_toArray, List.set_cons_zero, List.set_cons_succ] at hK ⊢
      unfold opStep
      rw [if_pos (by rfl)]
      obtain ⟨d0, d1, d2, d3, d4, d5, dlt⟩ := blk6 (KB.out.on hbw)
      go_simp
      exact hK.out _ _ (Below.refl _ _) rfl _ rfl
    case q1 =>
      intro wq hbw st  K hK
      have KQ := KW.out.trans (hbw.mono KW.out.size)
      simp only [Act.put, List.setIfInBounds_toArray, List.set_cons_zero, List.set_cons_succ] at hK ⊢
      unfold opStep
      rw [if_pos (by rfl)]
      go_simp
      exact hK.out _ _ (Below.refl _ _) rfl _ rfl
    case q2 =>
      intro wq hbw st  K hK
      have KQ := KW.out.trans (hbw.mono KW.out.size)
      simp only [Act.put, List.setIfInBounds_toArray, List.set_cons_zero, List.set_cons_succ] at hK ⊢
      unfold opStep
      rw [if_pos (by rfl)]
      go_simp
      exact hK.out _ _ (Below.refl _ _) rfl _ rfl
    case q3 =>
      intro wq hbw st  K hK
      have KQ := KW.out.trans (hbw.mono KW.out.size)
      simp only [Act.put, List.setIfInBounds_toArray, List.set_cons_zero, List.set_cons_succ] at hK ⊢
      unfold opStep
      rw [if_pos (by rfl)]
      go_simp
      refine (bool_as HL.out (large_any _ vB vC M R F B C _ (HG.out.1.on KQ) (HG.out.2.1.on KQ) (HG.out.2.2.on KQ))).mono ?_
      rintro e wz ⟨rfl, hbz⟩
      go_simp
      exact hK.out _ _ hbz rfl _ rfl
    case q4 =>
      intro wq hbw st  K hK
      have KQ := KW.out.trans (hbw.mono KW.out.size)
      simp only [Act.put, List.setIfInBounds_toArray, List.set_cons_zero, List.set_cons_succ] at hK ⊢
      unfold opStep
      rw [if_pos (by rfl)]
      go_simp
      exact hK.out _ _ (Below.refl _ _) rfl _ rfl
    case q5 =>
      intro wq hbw st  K hK
      have KQ := KW.out.trans (hbw.mono KW.out.size)
      simp only [Act.put, List.setIfInBounds_toArray, List.set_cons_zero, List.set_cons_succ] at hK ⊢
      unfold opStep
      rw [if_neg (by change ¬ (false = true); exact Bool.false_ne_true)]
      exact hK.out _ _ (Below.refl _ _) rfl _ rfl
    case q6 =>
      intro wq hbw st  K hK
      have KQ := KW.out.trans (hbw.mono KW.out.size)
      simp only [Act.put, List.setIfInBounds_toArray, List.set_cons_zero, List.set_cons_succ] at hK ⊢
      unfold opStep
      rw [if_neg (by change ¬ (false = true); exact Bool.false_ne_true)]
      exact hK.out _ _ (Below.refl _ _) rfl _ rfl
    case q7 =>
      intro wq hbw st  K hK
      have KQ := KW.out.trans (hbw.mono KW.out.size)
      simp only [Act.put, List.setIfInBounds_toArray, List.set_cons_zero, List.set_cons_succ] at hK ⊢
      unfold opStep
      rw [if_neg (by change ¬ (false = true); exact Bool.false_ne_true)]
      exact hK.out _ _ (Below.refl _ _) rfl _ rfl
    case q8 =>
      intro wq hbw st  K hK
      have KQ := KW.out.trans (hbw.mono KW.out.size)
      simp only [Act.put, List.setIfInBounds_toArray, List.set_cons_zero, List.set_cons_succ] at hK ⊢
      unfold opStep
      rw [if_neg (by change ¬ (false = true); exact Bool.false_ne_true)]
      exact hK.out _ _ (Below.refl _ _) rfl _ rfl
    case q9 =>
      intro wq hbw st  K hK
      have KQ := KW.out.trans (hbw.mono KW.out.size)
      simp only [Act.put, List.setIfInBounds_toArray, List.set_cons_zero, List.set_cons_succ] at hK ⊢
      unfold opStep
      rw [if_neg (by change ¬ (false = true); exact Bool.false_ne_true)]
      exact hK.out _ _ (Below.refl _ _) rfl _ rfl
    case q10 =>
      intro wq hbw st  K hK
      have KQ := KW.out.trans (hbw.mono KW.out.size)
      simp only [Act.put, List.setIfInBounds_toArray, List.set_cons_zero, List.set_cons_succ] at hK ⊢
      unfold opStep
      rw [if_neg (by change ¬ (false = true); exact Bool.false_ne_true)]
      exact hK.out _ _ (Below.refl _ _) rfl _ rfl
    case q11 =>
      intro wq hbw st  K hK
      have KQ := KW.out.trans (hbw.mono KW.out.size)
      simp only [Act.put, List.setIfInBounds_toArray, List.set_cons_zero, List.set_cons_succ] at hK ⊢
      unfold opStep
      rw [if_neg (by change ¬ (false = true); exact Bool.false_ne_true)]
      exact hK.out _ _ (Below.refl _ _) rfl _ rfl
    case q12 =>
      intro wq hbw st  K hK
      have KQ := KW.out.trans (hbw.mono KW.out.size)
      simp only [Act.put, List.setIfInBounds_toArray, List.set_cons_zero, List.set_cons_succ] at hK ⊢
      unfold opStep
      rw [if_neg (by change ¬ (false = true); exact Bool.false_ne_true)]
      exact hK.out _ _ (Below.refl _ _) rfl _ rfl
    case q13 =>
      intro wq hbw st  K hK
      have KQ := KW.out.trans (hbw.mono KW.out.size)
      simp only [Act.put, List.setIfInBounds_toArray, List.set_cons_zero, List.set_cons_succ] at hK ⊢
      unfold opStep
      rw [if_neg (by change ¬ (false = true); exact Bool.false_ne_true)]
      exact hK.out _ _ (Below.refl _ _) rfl _ rfl
    case q14 =>
      intro wq hbw st  K hK
      have KQ := KW.out.trans (hbw.mono KW.out.size)
      simp only [Act.put, List.setIfInBounds_toArray, List.set_cons_zero, List.set_cons_succ] at hK ⊢
      unfold opStep
      rw [if_neg (by change ¬ (false = true); exact Bool.false_ne_true)]
      exact hK.out _ _ (Below.refl _ _) rfl _ rfl
    case q15 =>
      intro wq hbw st  K hK
      have KQ := KW.out.trans (hbw.mono KW.out.size)
      simp only [Act.put, List.setIfInBounds_toArray, List.set_cons_zero, List.set_cons_succ] at hK ⊢
      unfold opStep
      rw [if_pos (by rfl)]
      go_simp
      exact hK.out _ _ (Below.refl _ _) rfl _ rfl
    case q16 =>
      intro wq hbw st  K hK
      have KQ := KW.out.trans (hbw.mono KW.out.size)
      simp only [Act.put, List.setIfInBounds_toArray, List.set_cons_zero, List.set_cons_succ] at hK ⊢
      unfold opStep
      rw [if_pos (by rfl)]
      go_simp
      exact hK.out _ _ (Below.refl _ _) rfl _ rfl
    case qfin =>
      intro wq hbw
      try simp only [FinAll]
      simp only [Act.put, List.setIfInBounds_toArray, List.set_cons_zero, List.set_cons_succ]
      have HW5 := Lib.hid (KW.out.trans (hbw.mono KW.out.size))
      clear hbw
      go_wp2
      go_ret
      exact ⟨ret_bool HR.out.symm, HW5.out⟩
  · have HL := Lib.hid (Bool.eq_false_iff.2 hl)
    have hBC : B.length ≤ 40 ∧ C.length ≤ 40 := by
      have := HL.out
      unfold largeB at this
      simp only [Bool.or_eq_false_iff, decide_eq_false_iff_not] at this
      omega
    obtain ⟨hB40, hC40⟩ := hBC
    have hlb := confL_len R B
    have hlc := confL_len R C
    clear hl
    by_cases hw : (7 : Int) < ((confL R C).length : Int) - ((confL R B).length : Int)
    · have e1 := decide_eq_true hw
      have HR : Hid (wideB R F B C = true) := Lib.hid (by unfold wideB; rw [HL.out, e1]; rfl)
      clear hw
      go_enter Try.func18, Try.ntmps18
      go_wp2
      have KB := Lib.hid (Blk.new W 25 #[.int .i64 M, .int .i64 R, .slice a1 n1 k1, .int .i64 cl, .slice a2 n2 k2, .slice a3 n3 k3])
      have KW := Lib.hid ((Below.refl W.heap.size W).alloc (Nat.le_refl _) (.cells #[.int .i64 M, .int .i64 R, .slice a1 n1 k1, .int .i64 cl, .slice a2 n2 k2, .slice a3 n3 k3] 25))
      generalize hw1 : World.alloc W _ = w1 at KB KW ⊢
      clear hw1
      refine region_left [.is (.agg #[.int .i64 M, .int .i64 R, .slice a1 n1 k1, .int .i64 cl, .slice a2 n2 k2, .slice a3 n3 k3]), .is vB, .is vC, .is (.bool false), .is (.bool false), .is (.agg #[.int .i64 M, .int .i64 R, .slice a1 n1 k1, .int .i64 cl, .slice a2 n2 k2, .slice a3 n3 k3]), .is vC, leftC (confL R C), .is (.int .i64 ((confL R C).length : Nat)), .is (.agg #[.int .i64 M, .int .i64 R, .slice a1 n1 k1, .int .i64 cl, .slice a2 n2 k2, .slice a3 n3 k3]), .is vB, leftC (confL R B), .is (.int .i64 ((confL R B).length : Nat)), .is (.int .i64 (((confL R C).length : Int) - ((confL R B).length : Int))), .is (.bool true), .is (.bool true), .is (.bool true)] (by kernel_rfl) rfl (by kernel_rfl) (by kernel_rfl) (.cons ?q0 (.cons ?q1 (.cons ?q2 (.cons ?q3 (.cons ?q4 (.cons ?q5 (.cons ?q6 (.cons ?q7 (.cons ?q8 (.cons ?q9 (.cons ?q10 (.cons ?q11 (.cons ?q12 (.cons ?q13 (.cons ?q14 (.cons ?q15 (.cons ?q16 .nil))))))))))))))))) ?qfin
      case q0 =>
        intro wq hbw st  K hK
        have KQ := KW.out.trans (hbw.mono KW.out.size)
        simp only [Act.put, List.setIfInBounds_toArray, List.set_cons_zero, List.set_cons_succ] at hK ⊢
        unfold opStep
        rw [if_pos (by rfl)]
        obtain ⟨d0, d1, d2, d3, d4, d5, dlt⟩ := blk6 (KB.out.on hbw)
        go_simp
        exact hK.out _ _ (Below.refl _ _) rfl _ rfl
      case q1 =>
        intro wq hbw st  K hK
        have KQ := KW.out.trans (hbw.mono KW.out.size)
        simp only [Act.put, List.setIfInBounds_toArray, List.set_cons_zero, List.set_cons_succ] at hK ⊢
        unfold opStep
        rw [if_pos (by rfl)]
        go_simp
        exact hK.out _ _ (Below.refl _ _) rfl _ rfl
      case q2 =>
        intro wq hbw st  K hK
        have KQ := KW.out.trans (hbw.mono KW.out.size)
        simp only [Act.put, List.setIfInBounds_toArray, List.set_cons_zero, List.set_cons_succ] at hK ⊢
        unfold opStep
        rw [if_pos (by rfl)]
        go_simp
        exact hK.out _ _ (Below.refl _ _) rfl _ rfl
      case q3 =>
        intro wq hbw st  K hK
        have KQ := KW.out.trans (hbw.mono KW.out.size)
        simp only [Act.put, List.setIfInBounds_toArray, List.set_cons_zero, List.set_cons_succ] at hK ⊢
        unfold opStep
        rw [if_pos (by rfl)]
        go_simp
        refine (bool_as HL.out (large_any _ vB vC M R F B C _ (HG.out.1.on KQ) (HG.out.2.1.on KQ) (HG.out.2.2.on KQ))).mono ?_
        rintro e wz ⟨rfl, hbz⟩
        go_simp
        exact hK.out _ _ hbz rfl _ rfl
      case q4 =>
        intro wq hbw st  K hK
        have KQ := KW.out.trans (hbw.mono KW.out.size)
        simp only [Act.put, List.setIfInBounds_toArray, List.set_cons_zero, List.set_cons_succ] at hK ⊢
        unfold opStep
        rw [if_pos (by rfl)]
        go_simp
        exact hK.out _ _ (Below.refl _ _) rfl _ rfl
      case q5 =>
        intro wq hbw st  K hK
        have KQ := KW.out.trans (hbw.mono KW.out.size)
        simp only [Act.put, List.setIfInBounds_toArray, List.set_cons_zero, List.set_cons_succ] at hK ⊢
        unfold opStep
        rw [if_pos (by rfl)]
        obtain ⟨d0, d1, d2, d3, d4, d5, dlt⟩ := blk6 (KB.out.on hbw)
        go_simp
        exact hK.out _ _ (Below.refl _ _) rfl _ rfl
      case q6 =>
        intro wq hbw st  K hK
        have KQ := KW.out.trans (hbw.mono KW.out.size)
        simp only [Act.put, List.setIfInBounds_toArray, List.set_cons_zero, List.set_cons_succ] at hK ⊢
        unfold opStep
        rw [if_pos (by rfl)]
        go_simp
        exact hK.out _ _ (Below.refl _ _) rfl _ rfl
      case q7 =>
        intro wq hbw st  K hK
        have KQ := KW.out.trans (hbw.mono KW.out.size)
        simp only [Act.put, List.setIfInBounds_toArray, List.set_cons_zero, List.set_cons_succ] at hK ⊢
        unfold opStep
        rw [if_pos (by rfl)]
        go_simp
        refine (conf_any _ _ M R F C _ (HG.out.1.on KQ) (HG.out.2.2.on KQ) (by omega)).mono ?_
        rintro e wz ⟨v, rfl, hr, hbz⟩
        go_simp
        exact hK.out _ _ hbz hr _ rfl
      case q8 =>
        intro wq hbw st x7 h7 K hK
        have KQ := KW.out.trans (hbw.mono KW.out.size)
        simp only [Act.put, List.setIfInBounds_toArray, List.set_cons_zero, List.set_cons_succ] at hK ⊢
        unfold opStep
        rw [if_pos (by rfl)]
        obtain ⟨ao, cp, rfl, hl1, hl2, -, -⟩ : ReadsC wq x7 (confL R C) := h7
        unfold maxLen at hl2
        go_simp
        exact hK.out _ _ (Below.refl _ _) rfl _ rfl
      case q9 =>
        intro wq hbw st  K hK
        have KQ := KW.out.trans (hbw.mono KW.out.size)
        simp only [Act.put, List.setIfInBounds_toArray, List.set_cons_zero, List.set_cons_succ] at hK ⊢
        unfold opStep
        rw [if_pos (by rfl)]
        obtain ⟨d0, d1, d2, d3, d4, d5, dlt⟩ := blk6 (KB.out.on hbw)
        go_simp
        exact hK.out _ _ (Below.refl _ _) rfl _ rfl
      case q10 =>
        intro wq hbw st  K hK
        have KQ := KW.out.trans (hbw.mono KW.out.size)
        simp only [Act.put, List.setIfInBounds_toArray, List.set_cons_zero, List.set_cons_succ] at hK ⊢
        unfold opStep
        rw [if_pos (by rfl)]
        go_simp
        exact hK.out _ _ (Below.refl _ _) rfl _ rfl
      case q11 =>
        intro wq hbw st x7 h7 K hK
        have KQ := KW.out.trans (hbw.mono KW.out.size)
        simp only [Act.put, List.setIfInBounds_toArray, List.set_cons_zero, List.set_cons_succ] at hK ⊢
        unfold opStep
        rw [if_pos (by rfl)]
        go_simp
        refine (conf_any _ _ M R F B _ (HG.out.1.on KQ) (HG.out.2.1.on KQ) (by omega)).mono ?_
        rintro e wz ⟨v, rfl, hr, hbz⟩
        go_simp
        exact hK.out _ _ hbz hr _ rfl
      case q12 =>
        intro wq hbw st x11 h11 K hK
        have KQ := KW.out.trans (hbw.mono KW.out.size)
        simp only [Act.put, List.setIfInBounds_toArray, List.set_cons_zero, List.set_cons_succ] at hK ⊢
        unfold opStep
        rw [if_pos (by rfl)]
        obtain ⟨ao, cp, rfl, hl1, hl2, -, -⟩ : ReadsC wq x11 (confL R B) := h11
        unfold maxLen at hl2
        go_simp
        exact hK.out _ _ (Below.refl _ _) rfl _ rfl
      case q13 =>
        intro wq hbw st  K hK
        have KQ := KW.out.trans (hbw.mono KW.out.size)
        simp only [Act.put, List.setIfInBounds_toArray, List.set_cons_zero, List.set_cons_succ] at hK ⊢
        unfold opStep
        rw [if_pos (by rfl)]
        have hwr : IntKind.i64.wrap (((confL R C).length : Int) - ((confL R B).length : Int)) = ((confL R C).length : Int) - ((confL R B).length : Int) := IntWalk.i64_in _ (by omega)
        go_simp
        exact hK.out _ _ (Below.refl _ _) rfl _ rfl
      case q14 =>
        intro wq hbw st  K hK
        have KQ := KW.out.trans (hbw.mono KW.out.size)
        simp only [Act.put, List.setIfInBounds_toArray, List.set_cons_zero, List.set_cons_succ] at hK ⊢
        unfold opStep
        rw [if_pos (by rfl)]
        go_simp
        exact hK.out _ _ (Below.refl _ _) rfl _ rfl
      case q15 =>
        intro wq hbw st  K hK
        have KQ := KW.out.trans (hbw.mono KW.out.size)
        simp only [Act.put, List.setIfInBounds_toArray, List.set_cons_zero, List.set_cons_succ] at hK ⊢
        unfold opStep
        rw [if_pos (by rfl)]
        go_simp
        exact hK.out _ _ (Below.refl _ _) rfl _ rfl
      case q16 =>
        intro wq hbw st x7 h7 x11 h11 K hK
        have KQ := KW.out.trans (hbw.mono KW.out.size)
        simp only [Act.put, List.setIfInBounds_toArray, List.set_cons_zero, List.set_cons_succ] at hK ⊢
        unfold opStep
        rw [if_pos (by rfl)]
        go_simp
        exact hK.out _ _ (Below.refl _ _) rfl _ rfl
      case qfin =>
        intro wq hbw
        intro x7 h7 x11 h11
        try simp only [FinAll]
        simp only [Act.put, List.setIfInBounds_toArray, List.set_cons_zero, List.set_cons_succ]
        have HW5 := Lib.hid (KW.out.trans (hbw.mono KW.out.size))
        clear hbw
        go_wp2
        go_ret
        exact ⟨ret_bool HR.out.symm, HW5.out⟩
    · have e1 := decide_eq_false hw
      have HR : Hid (wideB R F B C = false) := Lib.hid (by unfold wideB; rw [HL.out, e1]; rfl)
      clear hw
      go_enter Try.func18, Try.ntmps18
      go_wp2
      have KB := Lib.hid (Blk.new W 25 #[.int .i64 M, .int .i64 R, .slice a1 n1 k1, .int .i64 cl, .slice a2 n2 k2, .slice a3 n3 k3])
      have KW := Lib.hid ((Below.refl W.heap.size W).alloc (Nat.le_refl _) (.cells #[.int .i64 M, .int .i64 R, .slice a1 n1 k1, .int .i64 cl, .slice a2 n2 k2, .slice a3 n3 k3] 25))
      generalize hw1 : World.alloc W _ = w1 at KB KW ⊢
      clear hw1
      refine region_left [.is (.agg #[.int .i64 M, .int .i64 R, .slice a1 n1 k1, .int .i64 cl, .slice a2 n2 k2, .slice a3 n3 k3]), .is vB, .is vC, .is (.bool false), .is (.bool false), .is (.agg #[.int .i64 M, .int .i64 R, .slice a1 n1 k1, .int .i64 cl, .slice a2 n2 k2, .slice a3 n3 k3]), .is vC, leftC (confL R C), .is (.int .i64 ((confL R C).length : Nat)), .is (.agg #[.int .i64 M, .int .i64 R, .slice a1 n1 k1, .int .i64 cl, .slice a2 n2 k2, .slice a3 n3 k3]), .is vB, leftC (confL R B), .is (.int .i64 ((confL R B).length : Nat)), .is (.int .i64 (((confL R C).length : Int) - ((confL R B).length : Int))), .is (.bool false), .is (.bool false), .is (.bool false)] (by kernel_rfl) rfl (by kernel_rfl) (by kernel_rfl) (.cons ?q0 (.cons ?q1 (.cons ?q2 (.cons ?q3 (.cons ?q4 (.cons ?q5 (.cons ?q6 (.cons ?q7 (.cons ?q8 (.cons ?q9 (.cons ?q10 (.cons ?q11 (.cons ?q12 (.cons ?q13 (.cons ?q14 (.cons ?q15 (.cons ?q16 .nil))))))))))))))))) ?qfin
      case q0 =>
        intro wq hbw st  K hK
        have KQ := KW.out.trans (hbw.mono KW.out.size)
        simp only [Act.put, List.setIfInBounds_toArray, List.set_cons_zero, List.set_cons_succ] at hK ⊢
        unfold opStep
        rw [if_pos (by rfl)]
        obtain ⟨d0, d1, d2, d3, d4, d5, dlt⟩ := blk6 (KB.out.on hbw)
        go_simp
        exact hK.out _ _ (Below.refl _ _) rfl _ rfl
      case q1 =>
        intro wq hbw st  K hK
        have KQ := KW.out.trans (hbw.mono KW.out.size)
        simp only [Act.put, List.setIfInBounds_toArray, List.set_cons_zero, List.set_cons_succ] at hK ⊢
        unfold opStep
        rw [if_pos (by rfl)]
        go_simp
        exact hK.out _ _ (Below.refl _ _) rfl _ rfl
      case q2 =>
        intro wq hbw st  K hK
        have KQ := KW.out.trans (hbw.mono KW.out.size)
        simp only [Act.put, List.setIfInBounds_toArray, List.set_cons_zero, List.set_cons_succ] at hK ⊢
        unfold opStep
        rw [if_pos (by rfl)]
        go_simp
        exact hK.out _ _ (Below.refl _ _) rfl _ rfl
      case q3 =>
        intro wq hbw st  K hK
        have KQ := KW.out.trans (hbw.mono KW.out.size)
        simp only [Act.put, List.setIfInBounds_toArray, List.set_cons_zero, List.set_cons_succ] at hK ⊢
        unfold opStep
        rw [if_pos (by rfl)]
        go_simp
        refine (bool_as HL.out (large_any _ vB vC M R F B C _ (HG.out.1.on KQ) (HG.out.2.1.on KQ) (HG.out.2.2.on KQ))).mono ?_
        rintro e wz ⟨rfl, hbz⟩
        go_simp
        exact hK.out _ _ hbz rfl _ rfl
      case q4 =>
        intro wq hbw st  K hK
        have KQ := KW.out.trans (hbw.mono KW.out.size)
        simp only [Act.put, List.setIfInBounds_toArray, List.set_cons_zero, List.set_cons_succ] at hK ⊢
        unfold opStep
        rw [if_pos (by rfl)]
        go_simp
        exact hK.out _ _ (Below.refl _ _) rfl _ rfl
      case q5 =>
        intro wq hbw st  K hK
        have KQ := KW.out.trans (hbw.mono KW.out.size)
        simp only [Act.put, List.setIfInBounds_toArray, List.set_cons_zero, List.set_cons_succ] at hK ⊢
        unfold opStep
        rw [if_pos (by rfl)]
        obtain ⟨d0, d1, d2, d3, d4, d5, dlt⟩ := blk6 (KB.out.on hbw)
        go_simp
        exact hK.out _ _ (Below.refl _ _) rfl _ rfl
      case q6 =>
        intro wq hbw st  K hK
        have KQ := KW.out.trans (hbw.mono KW.out.size)
        simp only [Act.put, List.setIfInBounds_toArray, List.set_cons_zero, List.set_cons_succ] at hK ⊢
        unfold opStep
        rw [if_pos (by rfl)]
        go_simp
        exact hK.out _ _ (Below.refl _ _) rfl _ rfl
      case q7 =>
        intro wq hbw st  K hK
        have KQ := KW.out.trans (hbw.mono KW.out.size)
        simp only [Act.put, List.setIfInBounds_toArray, List.set_cons_zero, List.set_cons_succ] at hK ⊢
        unfold opStep
        rw [if_pos (by rfl)]
        go_simp
        refine (conf_any _ _ M R F C _ (HG.out.1.on KQ) (HG.out.2.2.on KQ) (by omega)).mono ?_
        rintro e wz ⟨v, rfl, hr, hbz⟩
        go_simp
        exact hK.out _ _ hbz hr _ rfl
      case q8 =>
        intro wq hbw st x7 h7 K hK
        have KQ := KW.out.trans (hbw.mono KW.out.size)
        simp only [Act.put, List.setIfInBounds_toArray, List.set_cons_zero, List.set_cons_succ] at hK ⊢
        unfold opStep
        rw [if_pos (by rfl)]
        obtain ⟨ao, cp, rfl, hl1, hl2, -, -⟩ : ReadsC wq x7 (confL R C) := h7
        unfold maxLen at hl2
        go_simp
        exact hK.out _ _ (Below.refl _ _) rfl _ rfl
      case q9 =>
        intro wq hbw st  K hK
        have KQ := KW.out.trans (hbw.mono KW.out.size)
        simp only [Act.put, List.setIfInBounds_toArray, List.set_cons_zero, List.set_cons_succ] at hK ⊢
        unfold opStep
        rw [if_pos (by rfl)]
        obtain ⟨d0, d1, d2, d3, d4, d5, dlt⟩ := blk6 (KB.out.on hbw)
        go_simp
        exact hK.out _ _ (Below.refl _ _) rfl _ rfl
      case q10 =>
        intro wq hbw st  K hK
        have KQ := KW.out.trans (hbw.mono KW.out.size)
        simp only [Act.put, List.setIfInBounds_toArray, List.set_cons_zero, List.set_cons_succ] at hK ⊢
        unfold opStep
        rw [if_pos (by rfl)]
        go_simp
        exact hK.out _ _ (Below.refl _ _) rfl _ rfl
      case q11 =>
        intro wq hbw st x7 h7 K hK
        have KQ := KW.out.trans (hbw.mono KW.out.size)
        simp only [Act.put, List.setIfInBounds_toArray, List.set_cons_zero, List.set_cons_succ] at hK ⊢
        unfold opStep
        rw [if_pos (by rfl)]
        go_simp
        refine (conf_any _ _ M R F B _ (HG.out.1.on KQ) (HG.out.2.1.on KQ) (by omega)).mono ?_
        rintro e wz ⟨v, rfl, hr, hbz⟩
        go_simp
        exact hK.out _ _ hbz hr _ rfl
      case q12 =>
        intro wq hbw st x11 h11 K hK
        have KQ := KW.out.trans (hbw.mono KW.out.size)
        simp only [Act.put, List.setIfInBounds_toArray, List.set_cons_zero, List.set_cons_succ] at hK ⊢
        unfold opStep
        rw [if_pos (by rfl)]
        obtain ⟨ao, cp, rfl, hl1, hl2, -, -⟩ : ReadsC wq x11 (confL R B) := h11
        unfold maxLen at hl2
        go_simp
        exact hK.out _ _ (Below.refl _ _) rfl _ rfl
      case q13 =>
        intro wq hbw st  K hK
        have KQ := KW.out.trans (hbw.mono KW.out.size)
        simp only [Act.put, List.setIfInBounds_toArray, List.set_cons_zero, List.set_cons_succ] at hK ⊢
        unfold opStep
        rw [if_pos (by rfl)]
        have hwr : IntKind.i64.wrap (((confL R C).length : Int) - ((confL R B).length : Int)) = ((confL R C).length : Int) - ((confL R B).length : Int) := IntWalk.i64_in _ (by omega)
        go_simp
        exact hK.out _ _ (Below.refl _ _) rfl _ rfl
      case q14 =>
        intro wq hbw st  K hK
        have KQ := KW.out.trans (hbw.mono KW.out.size)
        simp only [Act.put, List.setIfInBounds_toArray, List.set_cons_zero, List.set_cons_succ] at hK ⊢
        unfold opStep
        rw [if_pos (by rfl)]
        go_simp
        exact hK.out _ _ (Below.refl _ _) rfl _ rfl
      case q15 =>
        intro wq hbw st  K hK
        have KQ := KW.out.trans (hbw.mono KW.out.size)
        simp only [Act.put, List.setIfInBounds_toArray, List.set_cons_zero, List.set_cons_succ] at hK ⊢
        unfold opStep
        rw [if_pos (by rfl)]
        go_simp
        exact hK.out _ _ (Below.refl _ _) rfl _ rfl
      case q16 =>
        intro wq hbw st x7 h7 x11 h11 K hK
        have KQ := KW.out.trans (hbw.mono KW.out.size)
        simp only [Act.put, List.setIfInBounds_toArray, List.set_cons_zero, List.set_cons_succ] at hK ⊢
        unfold opStep
        rw [if_pos (by rfl)]
        go_simp
        exact hK.out _ _ (Below.refl _ _) rfl _ rfl
      case qfin =>
        intro wq hbw
        intro x7 h7 x11 h11
        try simp only [FinAll]
        simp only [Act.put, List.setIfInBounds_toArray, List.set_cons_zero, List.set_cons_succ]
        have HW5 := Lib.hid (KW.out.trans (hbw.mono KW.out.size))
        clear hbw
        go_wp2
        go_ret
        exact ⟨ret_bool HR.out.symm, HW5.out⟩
end Go.Proofs.Ytahpecbcpgjinaa
