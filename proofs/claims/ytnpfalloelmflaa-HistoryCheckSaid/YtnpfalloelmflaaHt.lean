/-
  Chapter 54: history.Sequential.
-/
import Derived.Test.YtnpfalloelmflaaHo
namespace Go.Proofs.Ytnpfalloelmflaa
open Go.RowKit

/-- Each two operations are in precedence one way. -/
def seqP (h : List Opn) : Prop := ∀ i j (_ : i < h.length) (_ : j < i), precAt h i j = true ∨ precAt h j i = true
noncomputable def seqB (h : List Opn) : Bool := @decide (seqP h) (Classical.propDecidable _)
theorem seq_no {h : List Opn} (hn : ¬ seqP h) : seqB h = false := @decide_eq_false _ (Classical.propDecidable _) hn
theorem seq_yes {h : List Opn} (hn : seqP h) : seqB h = true := @decide_eq_true _ (Classical.propDecidable _) hn

set_option maxRecDepth 100000 in
set_option maxHeartbeats 8000000 in
theorem sequential_any (v : Value) (h : List Opn) (W : World) (hr : ReadsO W v h) (_ : h.length ≤ 1000) : Calls Try.prog 24 #[v] W (BoolMade W (seqB h)) := by
  have HR := Lib.hid hr
  obtain ⟨ao, cap, rfl, hl, hm, -, -⟩ := hr
  unfold maxLen at hm
  have HNO := Lib.hid (@seq_no h)
  have HYES := Lib.hid (@seq_yes h)
  generalize seqB h = res at *
  go_enter Try.func24, Try.ntmps24
  go_wp2
  go_loopg [7] h.length (fun m i wr => ∃ k : Nat, m + k = h.length ∧ i = .int .i64 k ∧ (∀ i j (hi : i < h.length) (hj : j < i), i < k → precAt h i j = true ∨ precAt h j i = true) ∧ Below W.heap.size W wr)
  case atStart => exact ⟨0, by omega, rfl, fun i j _ _ h => by omega, Below.refl _ _⟩
  case round =>
    obtain ⟨k, hmk, rfl, hall, hbel⟩ := hrel
    have HM := Lib.hid hmk
    have HALL := Lib.hid hall
    have KW := Lib.hid hbel
    have hk : k ≤ h.length := by omega
    clear hmk hall hbel
    by_cases hlt : k < h.length
    · have hki : (k : Int) < h.length := by omega
      have hk0 : (0 : Int) ≤ (k : Int) := by omega
      go_wp2
      obtain ⟨G1, hG1⟩ : ∃ G, G = gk := ⟨_, rfl⟩
      subst hG1
      go_loopg [11] k (fun m i wr => ∃ j : Nat, m + j = k ∧ i = .int .i64 j ∧ (∀ q, q < j → precAt h k q = true ∨ precAt h q k = true) ∧ Below W.heap.size W wr)
      case atStart => exact ⟨0, by omega, rfl, fun q h => by omega, KW.out⟩
      case round =>
        clear KW
        obtain ⟨j, hmj, rfl, hin, hbel⟩ := hrel
        have HM2 := Lib.hid hmj
        have HIN := Lib.hid hin
        have KW := Lib.hid hbel
        have hj : j ≤ k := by omega
        clear hmj hin hbel
        by_cases hjk : j < k
        · have hjlt : j < h.length := by omega
          obtain ⟨b, off, cap1, a4, c4, a5, c5, hv, _, _, hm4, hm5, hl4, hl5, hcell, r1, r2⟩ := HR.out.at2 hlt
          injection hv with e1 e2 e3
          subst e1
          obtain ⟨b', off', cap2, d4, k4, d5, k5, hv, _, _, n4, n5, l4, l5, hcell', s1, s2⟩ := HR.out.at2 hjlt
          injection hv with e1 e2' e3'
          injection e1 with e1
          injection e1 with e1 e4
          subst e1 e4
          have hji : (j : Int) < h.length := by omega
          have hjk2 : (j : Int) < k := by omega
          have hj0 : (0 : Int) ≤ (j : Int) := by omega
          have hpa : precAt h k j = precB h[k] h[j] := by unfold precAt; rw [List.getElem?_eq_getElem hlt, List.getElem?_eq_getElem hjlt]
          have hpb : precAt h j k = precB h[j] h[k] := by unfold precAt; rw [List.getElem?_eq_getElem hlt, List.getElem?_eq_getElem hjlt]
          have HG : Hid (precAt h k j = true ∨ precAt h j k = true → ∀ q, q < j + 1 → precAt h k q = true ∨ precAt h q k = true) := Lib.hid fun h1 q hq => by
            rcases Nat.lt_or_ge q j with h2 | h2
            · exact HIN.out q h2
            · have : q = j := by omega
              subst this; exact h1
          have HB : Hid (precAt h k j = false → precAt h j k = false → res = false) := Lib.hid fun h1 h2 => HNO.out fun h3 => by
            rcases h3 k j hlt hjk with h4 | h4
            · rw [h1] at h4; cases h4
            · rw [h2] at h4; cases h4
          rw [hpa, hpb] at HG HB
          have HN := Lib.hid (And.intro hcell (And.intro r1 r2))
          have HN2 := Lib.hid (And.intro hcell' (And.intro s1 s2))
          clear e2 e3 e2' e3' hcell hcell' r1 r2 s1 s2 hpa hpb
          generalize h[k] = x at *
          generalize h[j] = y at *
          by_cases p1 : precB x y = true
          · have P1 := Lib.hid p1
            clear p1
            go_upto_region 7 with fail
            refine region_left [.is (.slice (some ⟨b, off, none⟩) h.length cap), .is (.int .i64 k), .is (.pointer (some ⟨b, off + k * 6, none⟩)), .is (.agg #[.int .i64 (cliO x), .int .i64 (kindO x), .int .i64 (begO x), .int .i64 (endO x), .slice a4 (addO x).length c4, .slice a5 (seeO x).length c5]), .is (.slice (some ⟨b, off, none⟩) h.length cap), .is (.int .i64 j), .is (.pointer (some ⟨b, off + j * 6, none⟩)), .is (.agg #[.int .i64 (cliO y), .int .i64 (kindO y), .int .i64 (begO y), .int .i64 (endO y), .slice d4 (addO y).length k4, .slice d5 (seeO y).length k5]), .is (.bool true), .is (.bool false), .is (.bool false), .is undef, .is undef, .is undef, .is undef, .is undef, .is undef, .is undef, .is undef, .is undef, .is undef, .is (.bool false)] (by kernel_rfl) rfl (by kernel_rfl) (by kernel_rfl) (.cons ?q0 (.cons ?q1 (.cons ?q2 (.cons ?q3 (.cons ?q4 (.cons ?q5 (.cons ?q6 (.cons ?q7 (.cons ?q8 (.cons ?q9 (.cons ?q10 (.cons ?q11 (.cons ?q12 (.cons ?q13 (.cons ?q14 (.cons ?q15 (.cons ?q16 (.cons ?q17 (.cons ?q18 (.cons ?q19 (.cons ?q20 (.cons ?q21 .nil)))))))))))))))))))))) ?qfin
            case q0 =>
              intro wq hbw st  K hK
              have KQ := KW.out.trans (hbw.mono KW.out.size)
              simp only [Act.put, List.setIfInBounds_toArray, List.set_cons_zero, List.set_cons_succ] at hK ⊢
              unfold opStep
              rw [if_pos (by rfl)]
              go_simp
              exact hK.out _ _ (Below.refl _ _) rfl _ rfl
            case q1 =>
              intro wq hbw st  K hK
              have KQ := KW.out.trans (hbw.mono KW.out.size)
              simp only [Act.put, List.setIfInBounds_toArray, List.set_cons_zero, List.set_cons_succ] at hK ⊢
              unfold opStep
              rw [if_pos (by rfl)]
              go_simp
              exact hK.out _ _ (Below.refl _ _) rfl _ rfl
            case q2 =>
              intro wq hbw st  K hK
              have KQ := KW.out.trans (hbw.mono KW.out.size)
              simp only [Act.put, List.setIfInBounds_toArray, List.set_cons_zero, List.set_cons_succ] at hK ⊢
              unfold opStep
              rw [if_pos (by rfl)]
              go_simp
              exact hK.out _ _ (Below.refl _ _) rfl _ rfl
            case q3 =>
              intro wq hbw st  K hK
              have KQ := KW.out.trans (hbw.mono KW.out.size)
              simp only [Act.put, List.setIfInBounds_toArray, List.set_cons_zero, List.set_cons_succ] at hK ⊢
              unfold opStep
              rw [if_pos (by rfl)]
              have dd := Lib.hid (HN.out.1 wq KQ)
              have d0 := dd.out.1
              have d1 := dd.out.2.1
              have d2 := dd.out.2.2.1
              have d3 := dd.out.2.2.2.1
              have d4 := dd.out.2.2.2.2.1
              have d5 := dd.out.2.2.2.2.2
              go_simp
              exact hK.out _ _ (Below.refl _ _) rfl _ rfl
            case q4 =>
              intro wq hbw st  K hK
              have KQ := KW.out.trans (hbw.mono KW.out.size)
              simp only [Act.put, List.setIfInBounds_toArray, List.set_cons_zero, List.set_cons_succ] at hK ⊢
              unfold opStep
              rw [if_pos (by rfl)]
              go_simp
              exact hK.out _ _ (Below.refl _ _) rfl _ rfl
            case q5 =>
              intro wq hbw st  K hK
              have KQ := KW.out.trans (hbw.mono KW.out.size)
              simp only [Act.put, List.setIfInBounds_toArray, List.set_cons_zero, List.set_cons_succ] at hK ⊢
              unfold opStep
              rw [if_pos (by rfl)]
              go_simp
              exact hK.out _ _ (Below.refl _ _) rfl _ rfl
            case q6 =>
              intro wq hbw st  K hK
              have KQ := KW.out.trans (hbw.mono KW.out.size)
              simp only [Act.put, List.setIfInBounds_toArray, List.set_cons_zero, List.set_cons_succ] at hK ⊢
              unfold opStep
              rw [if_pos (by rfl)]
              go_simp
              exact hK.out _ _ (Below.refl _ _) rfl _ rfl
            case q7 =>
              intro wq hbw st  K hK
              have KQ := KW.out.trans (hbw.mono KW.out.size)
              simp only [Act.put, List.setIfInBounds_toArray, List.set_cons_zero, List.set_cons_succ] at hK ⊢
              unfold opStep
              rw [if_pos (by rfl)]
              have dd := Lib.hid (HN2.out.1 wq KQ)
              have d0 := dd.out.1
              have d1 := dd.out.2.1
              have d2 := dd.out.2.2.1
              have d3 := dd.out.2.2.2.1
              have d4 := dd.out.2.2.2.2.1
              have d5 := dd.out.2.2.2.2.2
              go_simp
              exact hK.out _ _ (Below.refl _ _) rfl _ rfl
            case q8 =>
              intro wq hbw st  K hK
              have KQ := KW.out.trans (hbw.mono KW.out.size)
              simp only [Act.put, List.setIfInBounds_toArray, List.set_cons_zero, List.set_cons_succ] at hK ⊢
              unfold opStep
              rw [if_pos (by rfl)]
              go_simp
              have hpc := prec_any _ _ x y wq ⟨_, _, rfl, HN.out.2.1.keep KQ, HN.out.2.2.keep KQ⟩ ⟨_, _, rfl, HN2.out.2.1.keep KQ, HN2.out.2.2.keep KQ⟩
              rw [P1.out] at hpc
              refine hpc.mono ?_
              rintro e wz ⟨rfl, hbz⟩
              go_simp
              exact hK.out _ _ hbz rfl _ rfl
            case q9 =>
              intro wq hbw st  K hK
              have KQ := KW.out.trans (hbw.mono KW.out.size)
              simp only [Act.put, List.setIfInBounds_toArray, List.set_cons_zero, List.set_cons_succ] at hK ⊢
              unfold opStep
              rw [if_pos (by rfl)]
              go_simp
              exact hK.out _ _ (Below.refl _ _) rfl _ rfl
            case q10 =>
              intro wq hbw st  K hK
              have KQ := KW.out.trans (hbw.mono KW.out.size)
              simp only [Act.put, List.setIfInBounds_toArray, List.set_cons_zero, List.set_cons_succ] at hK ⊢
              unfold opStep
              rw [if_pos (by rfl)]
              go_simp
              exact hK.out _ _ (Below.refl _ _) rfl _ rfl
            case q11 =>
              intro wq hbw st  K hK
              have KQ := KW.out.trans (hbw.mono KW.out.size)
              simp only [Act.put, List.setIfInBounds_toArray, List.set_cons_zero, List.set_cons_succ] at hK ⊢
              unfold opStep
              rw [if_neg (by change ¬ (false = true); exact Bool.false_ne_true)]
              exact hK.out _ _ (Below.refl _ _) rfl _ rfl
            case q12 =>
              intro wq hbw st  K hK
              have KQ := KW.out.trans (hbw.mono KW.out.size)
              simp only [Act.put, List.setIfInBounds_toArray, List.set_cons_zero, List.set_cons_succ] at hK ⊢
              unfold opStep
              rw [if_neg (by change ¬ (false = true); exact Bool.false_ne_true)]
              exact hK.out _ _ (Below.refl _ _) rfl _ rfl
            case q13 =>
              intro wq hbw st  K hK
              have KQ := KW.out.trans (hbw.mono KW.out.size)
              simp only [Act.put, List.setIfInBounds_toArray, List.set_cons_zero, List.set_cons_succ] at hK ⊢
              unfold opStep
              rw [if_neg (by change ¬ (false = true); exact Bool.false_ne_true)]
              exact hK.out _ _ (Below.refl _ _) rfl _ rfl
            case q14 =>
              intro wq hbw st  K hK
              have KQ := KW.out.trans (hbw.mono KW.out.size)
              simp only [Act.put, List.setIfInBounds_toArray, List.set_cons_zero, List.set_cons_succ] at hK ⊢
              unfold opStep
              rw [if_neg (by change ¬ (false = true); exact Bool.false_ne_true)]
              exact hK.out _ _ (Below.refl _ _) rfl _ rfl
            case q15 =>
              intro wq hbw st  K hK
              have KQ := KW.out.trans (hbw.mono KW.out.size)
              simp only [Act.put, List.setIfInBounds_toArray, List.set_cons_zero, List.set_cons_succ] at hK ⊢
              unfold opStep
              rw [if_neg (by change ¬ (false = true); exact Bool.false_ne_true)]
              exact hK.out _ _ (Below.refl _ _) rfl _ rfl
            case q16 =>
              intro wq hbw st  K hK
              have KQ := KW.out.trans (hbw.mono KW.out.size)
              simp only [Act.put, List.setIfInBounds_toArray, List.set_cons_zero, List.set_cons_succ] at hK ⊢
              unfold opStep
              rw [if_neg (by change ¬ (false = true); exact Bool.false_ne_true)]
              exact hK.out _ _ (Below.refl _ _) rfl _ rfl
            case q17 =>
              intro wq hbw st  K hK
              have KQ := KW.out.trans (hbw.mono KW.out.size)
              simp only [Act.put, List.setIfInBounds_toArray, List.set_cons_zero, List.set_cons_succ] at hK ⊢
              unfold opStep
              rw [if_neg (by change ¬ (false = true); exact Bool.false_ne_true)]
              exact hK.out _ _ (Below.refl _ _) rfl _ rfl
            case q18 =>
              intro wq hbw st  K hK
              have KQ := KW.out.trans (hbw.mono KW.out.size)
              simp only [Act.put, List.setIfInBounds_toArray, List.set_cons_zero, List.set_cons_succ] at hK ⊢
              unfold opStep
              rw [if_neg (by change ¬ (false = true); exact Bool.false_ne_true)]
              exact hK.out _ _ (Below.refl _ _) rfl _ rfl
            case q19 =>
              intro wq hbw st  K hK
              have KQ := KW.out.trans (hbw.mono KW.out.size)
              simp only [Act.put, List.setIfInBounds_toArray, List.set_cons_zero, List.set_cons_succ] at hK ⊢
              unfold opStep
              rw [if_neg (by change ¬ (false = true); exact Bool.false_ne_true)]
              exact hK.out _ _ (Below.refl _ _) rfl _ rfl
            case q20 =>
              intro wq hbw st  K hK
              have KQ := KW.out.trans (hbw.mono KW.out.size)
              simp only [Act.put, List.setIfInBounds_toArray, List.set_cons_zero, List.set_cons_succ] at hK ⊢
              unfold opStep
              rw [if_neg (by change ¬ (false = true); exact Bool.false_ne_true)]
              exact hK.out _ _ (Below.refl _ _) rfl _ rfl
            case q21 =>
              intro wq hbw st  K hK
              have KQ := KW.out.trans (hbw.mono KW.out.size)
              simp only [Act.put, List.setIfInBounds_toArray, List.set_cons_zero, List.set_cons_succ] at hK ⊢
              unfold opStep
              rw [if_pos (by rfl)]
              go_simp
              exact hK.out _ _ (Below.refl _ _) rfl _ rfl
            case qfin =>
              intro wq hbw
              try simp only [FinAll]
              simp only [Act.put, List.setIfInBounds_toArray, List.set_cons_zero, List.set_cons_succ]
              replace KW := Lib.hid (KW.out.trans (hbw.mono KW.out.size))
              clear hbw
              go_wp2
              go_roundg (k - (j + 1))
              case measure => have := HM2.out; omega
              case rel => exact ⟨j + 1, by omega, by go_num, HG.out (.inl P1.out), KW.out⟩
          · have P1 := Lib.hid (Bool.eq_false_iff.2 p1)
            clear p1
            by_cases p2 : precB y x = true
            · have P2 := Lib.hid p2
              clear p2
              go_upto_region 7 with fail
              refine region_left [.is (.slice (some ⟨b, off, none⟩) h.length cap), .is (.int .i64 k), .is (.pointer (some ⟨b, off + k * 6, none⟩)), .is (.agg #[.int .i64 (cliO x), .int .i64 (kindO x), .int .i64 (begO x), .int .i64 (endO x), .slice a4 (addO x).length c4, .slice a5 (seeO x).length c5]), .is (.slice (some ⟨b, off, none⟩) h.length cap), .is (.int .i64 j), .is (.pointer (some ⟨b, off + j * 6, none⟩)), .is (.agg #[.int .i64 (cliO y), .int .i64 (kindO y), .int .i64 (begO y), .int .i64 (endO y), .slice d4 (addO y).length k4, .slice d5 (seeO y).length k5]), .is (.bool false), .is (.bool true), .is (.bool true), .is (.slice (some ⟨b, off, none⟩) h.length cap), .is (.int .i64 j), .is (.pointer (some ⟨b, off + j * 6, none⟩)), .is (.agg #[.int .i64 (cliO y), .int .i64 (kindO y), .int .i64 (begO y), .int .i64 (endO y), .slice d4 (addO y).length k4, .slice d5 (seeO y).length k5]), .is (.slice (some ⟨b, off, none⟩) h.length cap), .is (.int .i64 k), .is (.pointer (some ⟨b, off + k * 6, none⟩)), .is (.agg #[.int .i64 (cliO x), .int .i64 (kindO x), .int .i64 (begO x), .int .i64 (endO x), .slice a4 (addO x).length c4, .slice a5 (seeO x).length c5]), .is (.bool true), .is (.bool false), .is (.bool false)] (by kernel_rfl) rfl (by kernel_rfl) (by kernel_rfl) (.cons ?q0 (.cons ?q1 (.cons ?q2 (.cons ?q3 (.cons ?q4 (.cons ?q5 (.cons ?q6 (.cons ?q7 (.cons ?q8 (.cons ?q9 (.cons ?q10 (.cons ?q11 (.cons ?q12 (.cons ?q13 (.cons ?q14 (.cons ?q15 (.cons ?q16 (.cons ?q17 (.cons ?q18 (.cons ?q19 (.cons ?q20 (.cons ?q21 .nil)))))))))))))))))))))) ?qfin
              case q0 =>
                intro wq hbw st  K hK
                have KQ := KW.out.trans (hbw.mono KW.out.size)
                simp only [Act.put, List.setIfInBounds_toArray, List.set_cons_zero, List.set_cons_succ] at hK ⊢
                unfold opStep
                rw [if_pos (by rfl)]
                go_simp
                exact hK.out _ _ (Below.refl _ _) rfl _ rfl
              case q1 =>
                intro wq hbw st  K hK
                have KQ := KW.out.trans (hbw.mono KW.out.size)
                simp only [Act.put, List.setIfInBounds_toArray, List.set_cons_zero, List.set_cons_succ] at hK ⊢
                unfold opStep
                rw [if_pos (by rfl)]
                go_simp
                exact hK.out _ _ (Below.refl _ _) rfl _ rfl
              case q2 =>
                intro wq hbw st  K hK
                have KQ := KW.out.trans (hbw.mono KW.out.size)
                simp only [Act.put, List.setIfInBounds_toArray, List.set_cons_zero, List.set_cons_succ] at hK ⊢
                unfold opStep
                rw [if_pos (by rfl)]
                go_simp
                exact hK.out _ _ (Below.refl _ _) rfl _ rfl
              case q3 =>
                intro wq hbw st  K hK
                have KQ := KW.out.trans (hbw.mono KW.out.size)
                simp only [Act.put, List.setIfInBounds_toArray, List.set_cons_zero, List.set_cons_succ] at hK ⊢
                unfold opStep
                rw [if_pos (by rfl)]
                have dd := Lib.hid (HN.out.1 wq KQ)
                have d0 := dd.out.1
                have d1 := dd.out.2.1
                have d2 := dd.out.2.2.1
                have d3 := dd.out.2.2.2.1
                have d4 := dd.out.2.2.2.2.1
                have d5 := dd.out.2.2.2.2.2
                go_simp
                exact hK.out _ _ (Below.refl _ _) rfl _ rfl
              case q4 =>
                intro wq hbw st  K hK
                have KQ := KW.out.trans (hbw.mono KW.out.size)
                simp only [Act.put, List.setIfInBounds_toArray, List.set_cons_zero, List.set_cons_succ] at hK ⊢
                unfold opStep
                rw [if_pos (by rfl)]
                go_simp
                exact hK.out _ _ (Below.refl _ _) rfl _ rfl
              case q5 =>
                intro wq hbw st  K hK
                have KQ := KW.out.trans (hbw.mono KW.out.size)
                simp only [Act.put, List.setIfInBounds_toArray, List.set_cons_zero, List.set_cons_succ] at hK ⊢
                unfold opStep
                rw [if_pos (by rfl)]
                go_simp
                exact hK.out _ _ (Below.refl _ _) rfl _ rfl
              case q6 =>
                intro wq hbw st  K hK
                have KQ := KW.out.trans (hbw.mono KW.out.size)
                simp only [Act.put, List.setIfInBounds_toArray, List.set_cons_zero, List.set_cons_succ] at hK ⊢
                unfold opStep
                rw [if_pos (by rfl)]
                go_simp
                exact hK.out _ _ (Below.refl _ _) rfl _ rfl
              case q7 =>
                intro wq hbw st  K hK
                have KQ := KW.out.trans (hbw.mono KW.out.size)
                simp only [Act.put, List.setIfInBounds_toArray, List.set_cons_zero, List.set_cons_succ] at hK ⊢
                unfold opStep
                rw [if_pos (by rfl)]
                have dd := Lib.hid (HN2.out.1 wq KQ)
                have d0 := dd.out.1
                have d1 := dd.out.2.1
                have d2 := dd.out.2.2.1
                have d3 := dd.out.2.2.2.1
                have d4 := dd.out.2.2.2.2.1
                have d5 := dd.out.2.2.2.2.2
                go_simp
                exact hK.out _ _ (Below.refl _ _) rfl _ rfl
              case q8 =>
                intro wq hbw st  K hK
                have KQ := KW.out.trans (hbw.mono KW.out.size)
                simp only [Act.put, List.setIfInBounds_toArray, List.set_cons_zero, List.set_cons_succ] at hK ⊢
                unfold opStep
                rw [if_pos (by rfl)]
                go_simp
                have hpc := prec_any _ _ x y wq ⟨_, _, rfl, HN.out.2.1.keep KQ, HN.out.2.2.keep KQ⟩ ⟨_, _, rfl, HN2.out.2.1.keep KQ, HN2.out.2.2.keep KQ⟩
                rw [P1.out] at hpc
                refine hpc.mono ?_
                rintro e wz ⟨rfl, hbz⟩
                go_simp
                exact hK.out _ _ hbz rfl _ rfl
              case q9 =>
                intro wq hbw st  K hK
                have KQ := KW.out.trans (hbw.mono KW.out.size)
                simp only [Act.put, List.setIfInBounds_toArray, List.set_cons_zero, List.set_cons_succ] at hK ⊢
                unfold opStep
                rw [if_pos (by rfl)]
                go_simp
                exact hK.out _ _ (Below.refl _ _) rfl _ rfl
              case q10 =>
                intro wq hbw st  K hK
                have KQ := KW.out.trans (hbw.mono KW.out.size)
                simp only [Act.put, List.setIfInBounds_toArray, List.set_cons_zero, List.set_cons_succ] at hK ⊢
                unfold opStep
                rw [if_pos (by rfl)]
                go_simp
                exact hK.out _ _ (Below.refl _ _) rfl _ rfl
              case q11 =>
                intro wq hbw st  K hK
                have KQ := KW.out.trans (hbw.mono KW.out.size)
                simp only [Act.put, List.setIfInBounds_toArray, List.set_cons_zero, List.set_cons_succ] at hK ⊢
                unfold opStep
                rw [if_pos (by rfl)]
                go_simp
                exact hK.out _ _ (Below.refl _ _) rfl _ rfl
              case q12 =>
                intro wq hbw st  K hK
                have KQ := KW.out.trans (hbw.mono KW.out.size)
                simp only [Act.put, List.setIfInBounds_toArray, List.set_cons_zero, List.set_cons_succ] at hK ⊢
                unfold opStep
                rw [if_pos (by rfl)]
                go_simp
                exact hK.out _ _ (Below.refl _ _) rfl _ rfl
              case q13 =>
                intro wq hbw st  K hK
                have KQ := KW.out.trans (hbw.mono KW.out.size)
                simp only [Act.put, List.setIfInBounds_toArray, List.set_cons_zero, List.set_cons_succ] at hK ⊢
                unfold opStep
                rw [if_pos (by rfl)]
                go_simp
                exact hK.out _ _ (Below.refl _ _) rfl _ rfl
              case q14 =>
                intro wq hbw st  K hK
                have KQ := KW.out.trans (hbw.mono KW.out.size)
                simp only [Act.put, List.setIfInBounds_toArray, List.set_cons_zero, List.set_cons_succ] at hK ⊢
                unfold opStep
                rw [if_pos (by rfl)]
                have dd := Lib.hid (HN2.out.1 wq KQ)
                have d0 := dd.out.1
                have d1 := dd.out.2.1
                have d2 := dd.out.2.2.1
                have d3 := dd.out.2.2.2.1
                have d4 := dd.out.2.2.2.2.1
                have d5 := dd.out.2.2.2.2.2
                go_simp
                exact hK.out _ _ (Below.refl _ _) rfl _ rfl
              case q15 =>
                intro wq hbw st  K hK
                have KQ := KW.out.trans (hbw.mono KW.out.size)
                simp only [Act.put, List.setIfInBounds_toArray, List.set_cons_zero, List.set_cons_succ] at hK ⊢
                unfold opStep
                rw [if_pos (by rfl)]
                go_simp
                exact hK.out _ _ (Below.refl _ _) rfl _ rfl
              case q16 =>
                intro wq hbw st  K hK
                have KQ := KW.out.trans (hbw.mono KW.out.size)
                simp only [Act.put, List.setIfInBounds_toArray, List.set_cons_zero, List.set_cons_succ] at hK ⊢
                unfold opStep
                rw [if_pos (by rfl)]
                go_simp
                exact hK.out _ _ (Below.refl _ _) rfl _ rfl
              case q17 =>
                intro wq hbw st  K hK
                have KQ := KW.out.trans (hbw.mono KW.out.size)
                simp only [Act.put, List.setIfInBounds_toArray, List.set_cons_zero, List.set_cons_succ] at hK ⊢
                unfold opStep
                rw [if_pos (by rfl)]
                go_simp
                exact hK.out _ _ (Below.refl _ _) rfl _ rfl
              case q18 =>
                intro wq hbw st  K hK
                have KQ := KW.out.trans (hbw.mono KW.out.size)
                simp only [Act.put, List.setIfInBounds_toArray, List.set_cons_zero, List.set_cons_succ] at hK ⊢
                unfold opStep
                rw [if_pos (by rfl)]
                have dd := Lib.hid (HN.out.1 wq KQ)
                have d0 := dd.out.1
                have d1 := dd.out.2.1
                have d2 := dd.out.2.2.1
                have d3 := dd.out.2.2.2.1
                have d4 := dd.out.2.2.2.2.1
                have d5 := dd.out.2.2.2.2.2
                go_simp
                exact hK.out _ _ (Below.refl _ _) rfl _ rfl
              case q19 =>
                intro wq hbw st  K hK
                have KQ := KW.out.trans (hbw.mono KW.out.size)
                simp only [Act.put, List.setIfInBounds_toArray, List.set_cons_zero, List.set_cons_succ] at hK ⊢
                unfold opStep
                rw [if_pos (by rfl)]
                go_simp
                have hpc := prec_any _ _ y x wq ⟨_, _, rfl, HN2.out.2.1.keep KQ, HN2.out.2.2.keep KQ⟩ ⟨_, _, rfl, HN.out.2.1.keep KQ, HN.out.2.2.keep KQ⟩
                rw [P2.out] at hpc
                refine hpc.mono ?_
                rintro e wz ⟨rfl, hbz⟩
                go_simp
                exact hK.out _ _ hbz rfl _ rfl
              case q20 =>
                intro wq hbw st  K hK
                have KQ := KW.out.trans (hbw.mono KW.out.size)
                simp only [Act.put, List.setIfInBounds_toArray, List.set_cons_zero, List.set_cons_succ] at hK ⊢
                unfold opStep
                rw [if_pos (by rfl)]
                go_simp
                exact hK.out _ _ (Below.refl _ _) rfl _ rfl
              case q21 =>
                intro wq hbw st  K hK
                have KQ := KW.out.trans (hbw.mono KW.out.size)
                simp only [Act.put, List.setIfInBounds_toArray, List.set_cons_zero, List.set_cons_succ] at hK ⊢
                unfold opStep
                rw [if_pos (by rfl)]
                go_simp
                exact hK.out _ _ (Below.refl _ _) rfl _ rfl
              case qfin =>
                intro wq hbw
                try simp only [FinAll]
                simp only [Act.put, List.setIfInBounds_toArray, List.set_cons_zero, List.set_cons_succ]
                replace KW := Lib.hid (KW.out.trans (hbw.mono KW.out.size))
                clear hbw
                go_wp2
                go_roundg (k - (j + 1))
                case measure => have := HM2.out; omega
                case rel => exact ⟨j + 1, by omega, by go_num, HG.out (.inr P2.out), KW.out⟩
            · have P2 := Lib.hid (Bool.eq_false_iff.2 p2)
              clear p2
              go_upto_region 7 with fail
              refine region_left [.is (.slice (some ⟨b, off, none⟩) h.length cap), .is (.int .i64 k), .is (.pointer (some ⟨b, off + k * 6, none⟩)), .is (.agg #[.int .i64 (cliO x), .int .i64 (kindO x), .int .i64 (begO x), .int .i64 (endO x), .slice a4 (addO x).length c4, .slice a5 (seeO x).length c5]), .is (.slice (some ⟨b, off, none⟩) h.length cap), .is (.int .i64 j), .is (.pointer (some ⟨b, off + j * 6, none⟩)), .is (.agg #[.int .i64 (cliO y), .int .i64 (kindO y), .int .i64 (begO y), .int .i64 (endO y), .slice d4 (addO y).length k4, .slice d5 (seeO y).length k5]), .is (.bool false), .is (.bool true), .is (.bool true), .is (.slice (some ⟨b, off, none⟩) h.length cap), .is (.int .i64 j), .is (.pointer (some ⟨b, off + j * 6, none⟩)), .is (.agg #[.int .i64 (cliO y), .int .i64 (kindO y), .int .i64 (begO y), .int .i64 (endO y), .slice d4 (addO y).length k4, .slice d5 (seeO y).length k5]), .is (.slice (some ⟨b, off, none⟩) h.length cap), .is (.int .i64 k), .is (.pointer (some ⟨b, off + k * 6, none⟩)), .is (.agg #[.int .i64 (cliO x), .int .i64 (kindO x), .int .i64 (begO x), .int .i64 (endO x), .slice a4 (addO x).length c4, .slice a5 (seeO x).length c5]), .is (.bool false), .is (.bool true), .is (.bool true)] (by kernel_rfl) rfl (by kernel_rfl) (by kernel_rfl) (.cons ?q0 (.cons ?q1 (.cons ?q2 (.cons ?q3 (.cons ?q4 (.cons ?q5 (.cons ?q6 (.cons ?q7 (.cons ?q8 (.cons ?q9 (.cons ?q10 (.cons ?q11 (.cons ?q12 (.cons ?q13 (.cons ?q14 (.cons ?q15 (.cons ?q16 (.cons ?q17 (.cons ?q18 (.cons ?q19 (.cons ?q20 (.cons ?q21 .nil)))))))))))))))))))))) ?qfin
              case q0 =>
                intro wq hbw st  K hK
                have KQ := KW.out.trans (hbw.mono KW.out.size)
                simp only [Act.put, List.setIfInBounds_toArray, List.set_cons_zero, List.set_cons_succ] at hK ⊢
                unfold opStep
                rw [if_pos (by rfl)]
                go_simp
                exact hK.out _ _ (Below.refl _ _) rfl _ rfl
              case q1 =>
                intro wq hbw st  K hK
                have KQ := KW.out.trans (hbw.mono KW.out.size)
                simp only [Act.put, List.setIfInBounds_toArray, List.set_cons_zero, List.set_cons_succ] at hK ⊢
                unfold opStep
                rw [if_pos (by rfl)]
                go_simp
                exact hK.out _ _ (Below.refl _ _) rfl _ rfl
              case q2 =>
                intro wq hbw st  K hK
                have KQ := KW.out.trans (hbw.mono KW.out.size)
                simp only [Act.put, List.setIfInBounds_toArray, List.set_cons_zero, List.set_cons_succ] at hK ⊢
                unfold opStep
                rw [if_pos (by rfl)]
                go_simp
                exact hK.out _ _ (Below.refl _ _) rfl _ rfl
              case q3 =>
                intro wq hbw st  K hK
                have KQ := KW.out.trans (hbw.mono KW.out.size)
                simp only [Act.put, List.setIfInBounds_toArray, List.set_cons_zero, List.set_cons_succ] at hK ⊢
                unfold opStep
                rw [if_pos (by rfl)]
                have dd := Lib.hid (HN.out.1 wq KQ)
                have d0 := dd.out.1
                have d1 := dd.out.2.1
                have d2 := dd.out.2.2.1
                have d3 := dd.out.2.2.2.1
                have d4 := dd.out.2.2.2.2.1
                have d5 := dd.out.2.2.2.2.2
                go_simp
                exact hK.out _ _ (Below.refl _ _) rfl _ rfl
              case q4 =>
                intro wq hbw st  K hK
                have KQ := KW.out.trans (hbw.mono KW.out.size)
                simp only [Act.put, List.setIfInBounds_toArray, List.set_cons_zero, List.set_cons_succ] at hK ⊢
                unfold opStep
                rw [if_pos (by rfl)]
                go_simp
                exact hK.out _ _ (Below.refl _ _) rfl _ rfl
              case q5 =>
                intro wq hbw st  K hK
                have KQ := KW.out.trans (hbw.mono KW.out.size)
                simp only [Act.put, List.setIfInBounds_toArray, List.set_cons_zero, List.set_cons_succ] at hK ⊢
                unfold opStep
                rw [if_pos (by rfl)]
                go_simp
                exact hK.out _ _ (Below.refl _ _) rfl _ rfl
              case q6 =>
                intro wq hbw st  K hK
                have KQ := KW.out.trans (hbw.mono KW.out.size)
                simp only [Act.put, List.setIfInBounds_toArray, List.set_cons_zero, List.set_cons_succ] at hK ⊢
                unfold opStep
                rw [if_pos (by rfl)]
                go_simp
                exact hK.out _ _ (Below.refl _ _) rfl _ rfl
              case q7 =>
                intro wq hbw st  K hK
                have KQ := KW.out.trans (hbw.mono KW.out.size)
                simp only [Act.put, List.setIfInBounds_toArray, List.set_cons_zero, List.set_cons_succ] at hK ⊢
                unfold opStep
                rw [if_pos (by rfl)]
                have dd := Lib.hid (HN2.out.1 wq KQ)
                have d0 := dd.out.1
                have d1 := dd.out.2.1
                have d2 := dd.out.2.2.1
                have d3 := dd.out.2.2.2.1
                have d4 := dd.out.2.2.2.2.1
                have d5 := dd.out.2.2.2.2.2
                go_simp
                exact hK.out _ _ (Below.refl _ _) rfl _ rfl
              case q8 =>
                intro wq hbw st  K hK
                have KQ := KW.out.trans (hbw.mono KW.out.size)
                simp only [Act.put, List.setIfInBounds_toArray, List.set_cons_zero, List.set_cons_succ] at hK ⊢
                unfold opStep
                rw [if_pos (by rfl)]
                go_simp
                have hpc := prec_any _ _ x y wq ⟨_, _, rfl, HN.out.2.1.keep KQ, HN.out.2.2.keep KQ⟩ ⟨_, _, rfl, HN2.out.2.1.keep KQ, HN2.out.2.2.keep KQ⟩
                rw [P1.out] at hpc
                refine hpc.mono ?_
                rintro e wz ⟨rfl, hbz⟩
                go_simp
                exact hK.out _ _ hbz rfl _ rfl
              case q9 =>
                intro wq hbw st  K hK
                have KQ := KW.out.trans (hbw.mono KW.out.size)
                simp only [Act.put, List.setIfInBounds_toArray, List.set_cons_zero, List.set_cons_succ] at hK ⊢
                unfold opStep
                rw [if_pos (by rfl)]
                go_simp
                exact hK.out _ _ (Below.refl _ _) rfl _ rfl
              case q10 =>
                intro wq hbw st  K hK
                have KQ := KW.out.trans (hbw.mono KW.out.size)
                simp only [Act.put, List.setIfInBounds_toArray, List.set_cons_zero, List.set_cons_succ] at hK ⊢
                unfold opStep
                rw [if_pos (by rfl)]
                go_simp
                exact hK.out _ _ (Below.refl _ _) rfl _ rfl
              case q11 =>
                intro wq hbw st  K hK
                have KQ := KW.out.trans (hbw.mono KW.out.size)
                simp only [Act.put, List.setIfInBounds_toArray, List.set_cons_zero, List.set_cons_succ] at hK ⊢
                unfold opStep
                rw [if_pos (by rfl)]
                go_simp
                exact hK.out _ _ (Below.refl _ _) rfl _ rfl
              case q12 =>
                intro wq hbw st  K hK
                have KQ := KW.out.trans (hbw.mono KW.out.size)
                simp only [Act.put, List.setIfInBounds_toArray, List.set_cons_zero, List.set_cons_succ] at hK ⊢
                unfold opStep
                rw [if_pos (by rfl)]
                go_simp
                exact hK.out _ _ (Below.refl _ _) rfl _ rfl
              case q13 =>
                intro wq hbw st  K hK
                have KQ := KW.out.trans (hbw.mono KW.out.size)
                simp only [Act.put, List.setIfInBounds_toArray, List.set_cons_zero, List.set_cons_succ] at hK ⊢
                unfold opStep
                rw [if_pos (by rfl)]
                go_simp
                exact hK.out _ _ (Below.refl _ _) rfl _ rfl
              case q14 =>
                intro wq hbw st  K hK
                have KQ := KW.out.trans (hbw.mono KW.out.size)
                simp only [Act.put, List.setIfInBounds_toArray, List.set_cons_zero, List.set_cons_succ] at hK ⊢
                unfold opStep
                rw [if_pos (by rfl)]
                have dd := Lib.hid (HN2.out.1 wq KQ)
                have d0 := dd.out.1
                have d1 := dd.out.2.1
                have d2 := dd.out.2.2.1
                have d3 := dd.out.2.2.2.1
                have d4 := dd.out.2.2.2.2.1
                have d5 := dd.out.2.2.2.2.2
                go_simp
                exact hK.out _ _ (Below.refl _ _) rfl _ rfl
              case q15 =>
                intro wq hbw st  K hK
                have KQ := KW.out.trans (hbw.mono KW.out.size)
                simp only [Act.put, List.setIfInBounds_toArray, List.set_cons_zero, List.set_cons_succ] at hK ⊢
                unfold opStep
                rw [if_pos (by rfl)]
                go_simp
                exact hK.out _ _ (Below.refl _ _) rfl _ rfl
              case q16 =>
                intro wq hbw st  K hK
                have KQ := KW.out.trans (hbw.mono KW.out.size)
                simp only [Act.put, List.setIfInBounds_toArray, List.set_cons_zero, List.set_cons_succ] at hK ⊢
                unfold opStep
                rw [if_pos (by rfl)]
                go_simp
                exact hK.out _ _ (Below.refl _ _) rfl _ rfl
              case q17 =>
                intro wq hbw st  K hK
                have KQ := KW.out.trans (hbw.mono KW.out.size)
                simp only [Act.put, List.setIfInBounds_toArray, List.set_cons_zero, List.set_cons_succ] at hK ⊢
                unfold opStep
                rw [if_pos (by rfl)]
                go_simp
                exact hK.out _ _ (Below.refl _ _) rfl _ rfl
              case q18 =>
                intro wq hbw st  K hK
                have KQ := KW.out.trans (hbw.mono KW.out.size)
                simp only [Act.put, List.setIfInBounds_toArray, List.set_cons_zero, List.set_cons_succ] at hK ⊢
                unfold opStep
                rw [if_pos (by rfl)]
                have dd := Lib.hid (HN.out.1 wq KQ)
                have d0 := dd.out.1
                have d1 := dd.out.2.1
                have d2 := dd.out.2.2.1
                have d3 := dd.out.2.2.2.1
                have d4 := dd.out.2.2.2.2.1
                have d5 := dd.out.2.2.2.2.2
                go_simp
                exact hK.out _ _ (Below.refl _ _) rfl _ rfl
              case q19 =>
                intro wq hbw st  K hK
                have KQ := KW.out.trans (hbw.mono KW.out.size)
                simp only [Act.put, List.setIfInBounds_toArray, List.set_cons_zero, List.set_cons_succ] at hK ⊢
                unfold opStep
                rw [if_pos (by rfl)]
                go_simp
                have hpc := prec_any _ _ y x wq ⟨_, _, rfl, HN2.out.2.1.keep KQ, HN2.out.2.2.keep KQ⟩ ⟨_, _, rfl, HN.out.2.1.keep KQ, HN.out.2.2.keep KQ⟩
                rw [P2.out] at hpc
                refine hpc.mono ?_
                rintro e wz ⟨rfl, hbz⟩
                go_simp
                exact hK.out _ _ hbz rfl _ rfl
              case q20 =>
                intro wq hbw st  K hK
                have KQ := KW.out.trans (hbw.mono KW.out.size)
                simp only [Act.put, List.setIfInBounds_toArray, List.set_cons_zero, List.set_cons_succ] at hK ⊢
                unfold opStep
                rw [if_pos (by rfl)]
                go_simp
                exact hK.out _ _ (Below.refl _ _) rfl _ rfl
              case q21 =>
                intro wq hbw st  K hK
                have KQ := KW.out.trans (hbw.mono KW.out.size)
                simp only [Act.put, List.setIfInBounds_toArray, List.set_cons_zero, List.set_cons_succ] at hK ⊢
                unfold opStep
                rw [if_pos (by rfl)]
                go_simp
                exact hK.out _ _ (Below.refl _ _) rfl _ rfl
              case qfin =>
                intro wq hbw
                try simp only [FinAll]
                simp only [Act.put, List.setIfInBounds_toArray, List.set_cons_zero, List.set_cons_succ]
                replace KW := Lib.hid (KW.out.trans (hbw.mono KW.out.size))
                clear hbw
                have HE := Lib.hid (HB.out P1.out P2.out)
                go_wp2
                go_ret
                exact ⟨ret_bool HE.out.symm, KW.out⟩
        · have hjj : j = k := by omega
          subst hjj
          have HG : Hid (∀ i q (hi : i < h.length) (hq : q < i), i < j + 1 → precAt h i q = true ∨ precAt h q i = true) := Lib.hid fun i q hi hq hij => by
            rcases Nat.lt_or_ge i j with h2 | h2
            · exact HALL.out i q hi hq h2
            · have : i = j := by omega
              subst this; exact HIN.out q hq
          go_wp2
          go_roundg (h.length - (j + 1))
          case measure => have := HM.out; omega
          case rel => exact ⟨j + 1, by omega, by go_num, HG.out, KW.out⟩
    · have hkk : k = h.length := by omega
      subst hkk
      have HE := Lib.hid (HYES.out fun i j hi hj => HALL.out i j hi hj hi)
      go_wp2
      go_ret
      exact ⟨ret_bool HE.out.symm, KW.out⟩
end Go.Proofs.Ytnpfalloelmflaa
