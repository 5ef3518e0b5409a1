/-
  HistoryOrder: for all histories the law returns true, and what came in reads behind the call as before. No condition.
-/
import Derived.Test.YtnpfalloelmflaaPm
import Derived.Test.YtnpfalloelmflaaRg
import Derived.Test.YtnpfalloelmflaaHt
import Derived.Test.YtnpfalloelmflaaHs
import Derived.Test.YtnpfalloelmflaaHz
import Derived.Test.YtnpfalloelmflaaHq
import Derived.Deep.DeepCutAuto
namespace Go.Proofs.Ytnpfalloelmflaa.historyOrder
open Go.ChangeShapes Go.WideShapes Go.ChangeAt Go.RowKit

theorem prC_at : ∀ {L : List (Nat × Nat)} {q : Nat} {p : Nat × Nat}, L[q]? = some p → (prC L)[q * 2]? = some (.int .i64 (p.1 : Nat)) ∧ (prC L)[q * 2 + 1]? = some (.int .i64 (p.2 : Nat))
  | [], q, p, h => by simp at h
  | x :: t, 0, p, h => by
    simp at h
    subst h
    exact ⟨rfl, rfl⟩
  | x :: t, q + 1, p, h => by
    have h1 := prC_at (L := t) (q := q) (p := p) (by simpa using h)
    rw [show (q + 1) * 2 = q * 2 + 1 + 1 by omega]
    exact h1
theorem ord_at {w : World} {a : Option Addr} {kl : Nat} {L : List (Nat × Nat)} (h : w.ownsRow 0 42 2 (.slice a L.length kl) L.length (prC L)) {q : Nat} {p : Nat × Nat} (hq : L[q]? = some p) :
    ∃ g, a = some ⟨g, 0, none⟩ ∧ g < w.heap.size ∧ w.cell? ⟨g, q * 2, none⟩ = some (.int .i64 (p.1 : Nat)) ∧ w.cell? ⟨g, q * 2 + 1, none⟩ = some (.int .i64 (p.2 : Nat)) ∧ L.length ≤ kl ∧ kl ≤ maxLen ∧ q < L.length := by
  have hlt : q < L.length := (List.getElem?_eq_some_iff.1 hq).1
  rcases h.2 with ⟨_, h0⟩ | ⟨g, cap, cur, hv, _, hg, hn, hm, hs, ht⟩
  · omega
  · injection hv with e1 e2 e3
    subst e1 e3
    obtain ⟨h1, h2⟩ := prC_at hq
    rw [← ht, List.getElem?_take, if_pos (by omega), Array.getElem?_toList] at h1 h2
    exact ⟨g, rfl, (Array.getElem?_eq_some_iff.1 hg).1, (cell_of_row w g _ cur _ (0, 0) hg).trans h1, (cell_of_row w g _ cur _ (0, 0) hg).trans h2, hn, hm, hlt⟩
noncomputable def sqB (h : List Opn) (i k : Nat) : Bool := @decide (sqP h i k) (Classical.propDecidable _)
theorem sqB_iff {h : List Opn} {i k : Nat} : sqB h i k = true ↔ sqP h i k := by unfold sqB; exact @decide_eq_true_iff _ (Classical.propDecidable _)
theorem sqB_zero (h : List Opn) : sqB h 0 0 = true := sqB_iff.2 (sqP_zero h)
theorem sqB_step {h : List Opn} {i k : Nat} (hi : i < h.length) (hk : k < h.length) : sqB h i (k + 1) = (sqB h i k && (decide (i = k) || precAt h i k || precAt h k i)) := by
  rw [Bool.eq_iff_iff, sqB_iff, Bool.and_eq_true, sqB_iff, sqP_step hi hk, Bool.or_eq_true, Bool.or_eq_true, decide_eq_true_iff]
  exact ⟨fun ⟨a, b⟩ => ⟨a, b.elim (fun c => .inl (.inl c)) fun c => c.elim (fun d => .inl (.inr d)) .inr⟩, fun ⟨a, b⟩ => ⟨a, b.elim (fun c => c.elim .inl fun d => .inr (.inl d)) fun d => .inr (.inr d)⟩⟩
theorem sqB_row {h : List Opn} {i k : Nat} (hk : h.length ≤ k) : sqB h (i + 1) 0 = sqB h i k := by rw [Bool.eq_iff_iff, sqB_iff, sqB_iff]; exact sqP_row hk
theorem sqB_all {h : List Opn} {i : Nat} (hi : h.length ≤ i) : sqB h i 0 = seqB h := by
  rw [Bool.eq_iff_iff, sqB_iff, ← sqP_all hi]
  unfold seqB
  exact (@decide_eq_true_iff _ (Classical.propDecidable _)).symm
theorem precAt_eq {h : List Opn} {i k : Nat} (hi : i < h.length) (hk : k < h.length) : precAt h i k = precB h[i] h[k] := by
  unfold precAt; rw [List.getElem?_eq_getElem hi, List.getElem?_eq_getElem hk]
attribute [local go_sem] run_eq_pair
theorem vint {a b : Int} (h : a = b) : Value.int .i64 a = Value.int .i64 b := by rw [h]

set_option maxRecDepth 100000 in
set_option maxHeartbeats 16000000 in
theorem walk (v : Value) (h : List Opn) (W : World) (hr : ReadsO W v h) : Calls Try.prog 7 #[v] W (BoolMade W true) := by
  have HR := Lib.hid hr
  have HSM := Lib.hid (rsmall_any v h 20 W hr)
  obtain ⟨ao, cap, rfl, hl, hm, -, -⟩ := hr
  unfold maxLen at hm
  go_enter Try.func7, Try.ntmps7
  by_cases hs : smallB h 20 = true
  · have HS := Lib.hid (SmallH.of (by decide) hs)
    have hn := HS.out.1
    rw [hs] at HSM
    clear hs
    go_wp2_with fail
    refine (HSM.out).mono ?_
    rintro e W ⟨rfl, rfl⟩
    go_wp2_with fail
    refine (order_any _ h W HR.out HS.out.1).mono ?_
    rintro e w1 ⟨l, rfl, hrow, hb⟩
    have K0 := Lib.hid hb
    replace HR := Lib.hid (HR.out.on hb)
    have HL := Lib.hid (hrow)
    clear hrow
    clear hb
    obtain ⟨al, kl, rfl⟩ := row_slc HL.out
    have HAT := Lib.hid (fun q p hq => ord_at HL.out (q := q) (p := p) hq)
    have HOA := Lib.hid (fun i k hi hk hp => @ordL_at h i k hi hk hp)
    have HSB := Lib.hid (And.intro (@sqB_zero h) (And.intro (@sqB_step h) (And.intro (@sqB_row h) (@sqB_all h))))
    have HOS := Lib.hid (ordL_succ h)
    have HLL := Lib.hid (ordL_len h)
    have HN0 : Hid (h.length = h.length) := Lib.hid rfl
    go_wp2
    go_loopg [4, 5, 6] h.length (fun m at_ sq i wr => ∃ k : Nat, m + k = h.length ∧ i = .int .i64 k ∧ at_ = .int .i64 (ordL h k).length ∧ sq = .bool (sqB h k 0) ∧ Below w1.heap.size w1 wr)
    case atStart => exact ⟨0, by omega, rfl, rfl, by rw [HSB.out.1], Below.refl _ _⟩
    case round =>
      obtain ⟨k, hmk, rfl, rfl, rfl, hbel⟩ := hrel
      have HM := Lib.hid hmk
      have KW := Lib.hid hbel
      have hk : k ≤ h.length := by omega
      have hll := HLL.out k
      clear hmk hbel
      by_cases hlt : k < h.length
      · have hki : (k : Int) < h.length := by omega
        have hk0 : (0 : Int) ≤ (k : Int) := by omega
        have hkn : k * h.length ≤ 1000000 := by
          have := Nat.mul_le_mul hk hn
          have := Nat.mul_le_mul_right 1000 hn
          omega
        obtain ⟨b, off, cap1, a4, c4, a5, c5, hv, _, _, hm4, hm5, hl4, hl5, hcell, r1, r2⟩ := HR.out.at2 hlt
        injection hv with e1 e2 e3
        subst e1
        have HN := Lib.hid (And.intro hcell (And.intro r1 r2))
        have HXE : Hid (∀ q (hq : q < h.length), precAt h k q = precB h[k] h[q] ∧ precAt h q k = precB h[q] h[k]) := Lib.hid fun q hq => ⟨precAt_eq hlt hq, precAt_eq hq hlt⟩
        have HLT := Lib.hid hlt
        clear e2 e3 hcell r1 r2
        generalize h[k] = x at *
        clear hlt
        have hnl : (ordL h k).length ≤ 1000000 := Nat.le_trans hll hkn
        clear hll hkn
        generalize hon : (ordL h k).length = on at *
        have HON := Lib.hid hon
        clear hon
        go_wp2
        obtain ⟨G1, hG1⟩ : ∃ G, G = gk := ⟨_, rfl⟩
        subst hG1
        go_loopg [4, 5, 7] h.length (fun m at_ sq j wr => ∃ q : Nat, m + q = h.length ∧ j = .int .i64 q ∧ at_ = .int .i64 ((on + (rowL h k q).length : Nat)) ∧ sq = .bool (sqB h k q) ∧ Below w1.heap.size w1 wr)
        case atStart => exact ⟨0, by omega, rfl, by simp [rowL], rfl, KW.out⟩
        case round =>
          clear KW
          obtain ⟨q, hmq, rfl, rfl, rfl, hbel⟩ := hrel
          have HM2 := Lib.hid hmq
          have KW := Lib.hid hbel
          have hq : q ≤ h.length := by omega
          have hrl := rowL_len h k q
          clear hmq hbel
          by_cases hql : q < h.length
          · have hqi : (q : Int) < h.length := by omega
            have hq0 : (0 : Int) ≤ (q : Int) := by omega
            obtain ⟨b', off', cap2', d4, k4, d5, k5, hv, _, _, n4, n5, l4, l5, hcell, s1, s2⟩ := HR.out.at2 hql
            injection hv with e5 e6 e7
            injection e5 with e5
            injection e5 with e5 e8
            subst e5 e8
            have HN2 := Lib.hid (And.intro hcell (And.intro s1 s2))
            have HPE := Lib.hid (HXE.out q hql)
            have HST := Lib.hid (HSB.out.2.1 HLT.out hql)
            have HRY := Lib.hid (@rowL_yes h k q)
            have HRN := Lib.hid (@rowL_no h k q)
            have HQL := Lib.hid hql
            clear e6 e7 hcell s1 s2
            generalize h[q] = y at *
            clear hql
            have HPA : Hid (precB x y = true → ∃ g, al = some ⟨g, 0, none⟩ ∧ g < w1.heap.size ∧ w1.cell? ⟨g, (on + (rowL h k q).length) * 2, none⟩ = some (.int .i64 (k : Nat)) ∧ w1.cell? ⟨g, (on + (rowL h k q).length) * 2 + 1, none⟩ = some (.int .i64 (q : Nat)) ∧ (ordL h h.length).length ≤ kl ∧ kl ≤ maxLen ∧ on + (rowL h k q).length < (ordL h h.length).length) := Lib.hid fun hp => by
              obtain ⟨t, ht⟩ := HOA.out k q HLT.out HQL.out (by rw [HPE.out.1]; exact hp)
              have h0 := HAT.out (on + (rowL h k q).length) (k, q) (by
                rw [ht, List.getElem?_append_right (by rw [List.length_append, HON.out]; omega), List.length_append, HON.out, Nat.sub_self]; rfl)
              exact h0
            generalize hrn : (rowL h k q).length = rn at *
            generalize hsb : sqB h k q = S at *
            have HRS := Lib.hid (And.intro hrn hsb)
            clear hrn hsb
            by_cases p1 : precB x y = true
            · have P1 := Lib.hid p1
              clear p1
              go_wp2_with fail
              refine region_left [.is (.slice (some ⟨b, off, none⟩) h.length cap), .is (.int .i64 k), .is (.pointer (some ⟨b, off + k * 6, none⟩)), .is (.agg #[.int .i64 (cliO x), .int .i64 (kindO x), .int .i64 (begO x), .int .i64 (endO x), .slice a4 (addO x).length c4, .slice a5 (seeO x).length c5]), .is (.slice (some ⟨b, off, none⟩) h.length cap), .is (.int .i64 q), .is (.pointer (some ⟨b, off + q * 6, none⟩)), .is (.agg #[.int .i64 (cliO y), .int .i64 (kindO y), .int .i64 (begO y), .int .i64 (endO y), .slice d4 (addO y).length k4, .slice d5 (seeO y).length k5]), .is (.bool true)] (by kernel_rfl) rfl (by kernel_rfl) (by kernel_rfl) (.cons ?q4_0 (.cons ?q4_1 (.cons ?q4_2 (.cons ?q4_3 (.cons ?q4_4 (.cons ?q4_5 (.cons ?q4_6 (.cons ?q4_7 (.cons ?q4_8 .nil))))))))) ?q4_fin
              case q4_0 =>
                intro wq hbw st  K hK
                have KQ := KW.out.trans (hbw.mono KW.out.size)
                simp only [Act.put, List.setIfInBounds_toArray, List.set_cons_zero, List.set_cons_succ] at hK ⊢
                unfold opStep
                rw [if_pos (by rfl)]
                go_simp
                exact hK.out _ _ (Below.refl _ _) rfl _ rfl
              case q4_1 =>
                intro wq hbw st  K hK
                have KQ := KW.out.trans (hbw.mono KW.out.size)
                simp only [Act.put, List.setIfInBounds_toArray, List.set_cons_zero, List.set_cons_succ] at hK ⊢
                unfold opStep
                rw [if_pos (by rfl)]
                go_simp
                exact hK.out _ _ (Below.refl _ _) rfl _ rfl
              case q4_2 =>
                intro wq hbw st  K hK
                have KQ := KW.out.trans (hbw.mono KW.out.size)
                simp only [Act.put, List.setIfInBounds_toArray, List.set_cons_zero, List.set_cons_succ] at hK ⊢
                unfold opStep
                rw [if_pos (by rfl)]
                go_simp
                exact hK.out _ _ (Below.refl _ _) rfl _ rfl
              case q4_3 =>
                intro wq hbw st  K hK
                have KQ := KW.out.trans (hbw.mono KW.out.size)
                simp only [Act.put, List.setIfInBounds_toArray, List.set_cons_zero, List.set_cons_succ] at hK ⊢
                unfold opStep
                rw [if_pos (by rfl)]
                have dd := Lib.hid (HN.out.1 wq KQ)
                have d0 := dd.out.1
                have d1 := dd.out.2.1
                have d2 := dd.out.2.2.1
                have d3 := dd.out.2.2.2.1
                have d4 := dd.out.2.2.2.2.1
                have d5 := dd.out.2.2.2.2.2
                go_simp
                exact hK.out _ _ (Below.refl _ _) rfl _ rfl
              case q4_4 =>
                intro wq hbw st  K hK
                have KQ := KW.out.trans (hbw.mono KW.out.size)
                simp only [Act.put, List.setIfInBounds_toArray, List.set_cons_zero, List.set_cons_succ] at hK ⊢
                unfold opStep
                rw [if_pos (by rfl)]
                go_simp
                exact hK.out _ _ (Below.refl _ _) rfl _ rfl
              case q4_5 =>
                intro wq hbw st  K hK
                have KQ := KW.out.trans (hbw.mono KW.out.size)
                simp only [Act.put, List.setIfInBounds_toArray, List.set_cons_zero, List.set_cons_succ] at hK ⊢
                unfold opStep
                rw [if_pos (by rfl)]
                go_simp
                exact hK.out _ _ (Below.refl _ _) rfl _ rfl
              case q4_6 =>
                intro wq hbw st  K hK
                have KQ := KW.out.trans (hbw.mono KW.out.size)
                simp only [Act.put, List.setIfInBounds_toArray, List.set_cons_zero, List.set_cons_succ] at hK ⊢
                unfold opStep
                rw [if_pos (by rfl)]
                go_simp
                exact hK.out _ _ (Below.refl _ _) rfl _ rfl
              case q4_7 =>
                intro wq hbw st  K hK
                have KQ := KW.out.trans (hbw.mono KW.out.size)
                simp only [Act.put, List.setIfInBounds_toArray, List.set_cons_zero, List.set_cons_succ] at hK ⊢
                unfold opStep
                rw [if_pos (by rfl)]
                have dd := Lib.hid (HN2.out.1 wq KQ)
                have d0 := dd.out.1
                have d1 := dd.out.2.1
                have d2 := dd.out.2.2.1
                have d3 := dd.out.2.2.2.1
                have d4 := dd.out.2.2.2.2.1
                have d5 := dd.out.2.2.2.2.2
                go_simp
                exact hK.out _ _ (Below.refl _ _) rfl _ rfl
              case q4_8 =>
                intro wq hbw st  K hK
                have KQ := KW.out.trans (hbw.mono KW.out.size)
                simp only [Act.put, List.setIfInBounds_toArray, List.set_cons_zero, List.set_cons_succ] at hK ⊢
                unfold opStep
                rw [if_pos (by rfl)]
                go_simp
                have hpc := rprec_any _ _ x y wq ⟨_, _, rfl, HN.out.2.1.keep KQ, HN.out.2.2.keep KQ⟩ ⟨_, _, rfl, HN2.out.2.1.keep KQ, HN2.out.2.2.keep KQ⟩
                rw [P1.out] at hpc
                refine hpc.mono ?_
                rintro e wz ⟨rfl, hbz⟩
                go_simp
                exact hK.out _ _ hbz rfl _ rfl
              case q4_fin =>
                intro wq hbw
                try simp only [FinAll]
                simp only [Act.put, List.setIfInBounds_toArray, List.set_cons_zero, List.set_cons_succ]
                replace KW := Lib.hid (KW.out.trans (hbw.mono KW.out.size))
                clear hbw
                obtain ⟨g, rfl, hgl, g0, g1, hok, hmk, hrlt⟩ := HPA.out P1.out
                unfold maxLen at hmk
                have v0 := (KW.out.cell (p := ⟨g, (on + rn) * 2, none⟩) hgl).trans g0
                have v1 := (KW.out.cell (p := ⟨g, (on + rn) * 2 + 1, none⟩) hgl).trans g1
                have hrn1 : rn ≤ 1000 := by omega
                have hni : ((on + rn : Nat) : Int) < (ordL h h.length).length := by omega
                have hn0 : (0 : Int) ≤ ((on + rn : Nat) : Int) := by omega
                clear g0 g1 hgl HPA
                cases S with
                | false =>
                  have HVL : Hid (sqB h k (q + 1) = false) := Lib.hid (by rw [HST.out]; rfl)
                  go_wp2_with fail
                  refine region_left [.is (.bool false), .is (.bool false), .is undef, .is undef, .is undef, .is undef, .is undef, .is undef, .is undef, .is undef, .is undef, .is undef, .is undef, .is undef, .is undef, .is undef, .is undef, .is undef, .is undef, .is undef, .is undef, .is undef, .is undef, .is undef, .is undef, .is undef, .is undef, .is (.bool false), .is (.bool false)] (by kernel_rfl) rfl (by kernel_rfl) (by kernel_rfl) (.cons ?r1_0 (.cons ?r1_1 (.cons ?r1_2 (.cons ?r1_3 (.cons ?r1_4 (.cons ?r1_5 (.cons ?r1_6 (.cons ?r1_7 (.cons ?r1_8 (.cons ?r1_9 (.cons ?r1_10 (.cons ?r1_11 (.cons ?r1_12 (.cons ?r1_13 (.cons ?r1_14 (.cons ?r1_15 (.cons ?r1_16 (.cons ?r1_17 (.cons ?r1_18 (.cons ?r1_19 (.cons ?r1_20 (.cons ?r1_21 (.cons ?r1_22 (.cons ?r1_23 (.cons ?r1_24 (.cons ?r1_25 (.cons ?r1_26 (.cons ?r1_27 (.cons ?r1_28 .nil))))))))))))))))))))))))))))) ?r1_fin
                  case r1_0 =>
                    intro wq hbw st  K hK
                    have KQ := KW.out.trans (hbw.mono KW.out.size)
                    simp only [Act.put, List.setIfInBounds_toArray, List.set_cons_zero, List.set_cons_succ] at hK ⊢
                    unfold opStep
                    rw [if_pos (by rfl)]
                    go_simp
                    exact hK.out _ _ (Below.refl _ _) rfl _ rfl
                  case r1_1 =>
                    intro wq hbw st  K hK
                    have KQ := KW.out.trans (hbw.mono KW.out.size)
                    simp only [Act.put, List.setIfInBounds_toArray, List.set_cons_zero, List.set_cons_succ] at hK ⊢
                    unfold opStep
                    rw [if_pos (by rfl)]
                    go_simp
                    exact hK.out _ _ (Below.refl _ _) rfl _ rfl
                  case r1_2 =>
                    intro wq hbw st  K hK
                    have KQ := KW.out.trans (hbw.mono KW.out.size)
                    simp only [Act.put, List.setIfInBounds_toArray, List.set_cons_zero, List.set_cons_succ] at hK ⊢
                    unfold opStep
                    rw [if_neg (by change ¬ (false = true); exact Bool.false_ne_true)]
                    exact hK.out _ _ (Below.refl _ _) rfl _ rfl
                  case r1_3 =>
                    intro wq hbw st  K hK
                    have KQ := KW.out.trans (hbw.mono KW.out.size)
                    simp only [Act.put, List.setIfInBounds_toArray, List.set_cons_zero, List.set_cons_succ] at hK ⊢
                    unfold opStep
                    rw [if_neg (by change ¬ (false = true); exact Bool.false_ne_true)]
                    exact hK.out _ _ (Below.refl _ _) rfl _ rfl
                  case r1_4 =>
                    intro wq hbw st  K hK
                    have KQ := KW.out.trans (hbw.mono KW.out.size)
                    simp only [Act.put, List.setIfInBounds_toArray, List.set_cons_zero, List.set_cons_succ] at hK ⊢
                    unfold opStep
                    rw [if_neg (by change ¬ (false = true); exact Bool.false_ne_true)]
                    exact hK.out _ _ (Below.refl _ _) rfl _ rfl
                  case r1_5 =>
                    intro wq hbw st  K hK
                    have KQ := KW.out.trans (hbw.mono KW.out.size)
                    simp only [Act.put, List.setIfInBounds_toArray, List.set_cons_zero, List.set_cons_succ] at hK ⊢
                    unfold opStep
                    rw [if_neg (by change ¬ (false = true); exact Bool.false_ne_true)]
                    exact hK.out _ _ (Below.refl _ _) rfl _ rfl
                  case r1_6 =>
                    intro wq hbw st  K hK
                    have KQ := KW.out.trans (hbw.mono KW.out.size)
                    simp only [Act.put, List.setIfInBounds_toArray, List.set_cons_zero, List.set_cons_succ] at hK ⊢
                    unfold opStep
                    rw [if_neg (by change ¬ (false = true); exact Bool.false_ne_true)]
                    exact hK.out _ _ (Below.refl _ _) rfl _ rfl
                  case r1_7 =>
                    intro wq hbw st  K hK
                    have KQ := KW.out.trans (hbw.mono KW.out.size)
                    simp only [Act.put, List.setIfInBounds_toArray, List.set_cons_zero, List.set_cons_succ] at hK ⊢
                    unfold opStep
                    rw [if_neg (by change ¬ (false = true); exact Bool.false_ne_true)]
                    exact hK.out _ _ (Below.refl _ _) rfl _ rfl
                  case r1_8 =>
                    intro wq hbw st  K hK
                    have KQ := KW.out.trans (hbw.mono KW.out.size)
                    simp only [Act.put, List.setIfInBounds_toArray, List.set_cons_zero, List.set_cons_succ] at hK ⊢
                    unfold opStep
                    rw [if_neg (by change ¬ (false = true); exact Bool.false_ne_true)]
                    exact hK.out _ _ (Below.refl _ _) rfl _ rfl
                  case r1_9 =>
                    intro wq hbw st  K hK
                    have KQ := KW.out.trans (hbw.mono KW.out.size)
                    simp only [Act.put, List.setIfInBounds_toArray, List.set_cons_zero, List.set_cons_succ] at hK ⊢
                    unfold opStep
                    rw [if_neg (by change ¬ (false = true); exact Bool.false_ne_true)]
                    exact hK.out _ _ (Below.refl _ _) rfl _ rfl
                  case r1_10 =>
                    intro wq hbw st  K hK
                    have KQ := KW.out.trans (hbw.mono KW.out.size)
                    simp only [Act.put, List.setIfInBounds_toArray, List.set_cons_zero, List.set_cons_succ] at hK ⊢
                    unfold opStep
                    rw [if_neg (by change ¬ (false = true); exact Bool.false_ne_true)]
                    exact hK.out _ _ (Below.refl _ _) rfl _ rfl
                  case r1_11 =>
                    intro wq hbw st  K hK
                    have KQ := KW.out.trans (hbw.mono KW.out.size)
                    simp only [Act.put, List.setIfInBounds_toArray, List.set_cons_zero, List.set_cons_succ] at hK ⊢
                    unfold opStep
                    rw [if_neg (by change ¬ (false = true); exact Bool.false_ne_true)]
                    exact hK.out _ _ (Below.refl _ _) rfl _ rfl
                  case r1_12 =>
                    intro wq hbw st  K hK
                    have KQ := KW.out.trans (hbw.mono KW.out.size)
                    simp only [Act.put, List.setIfInBounds_toArray, List.set_cons_zero, List.set_cons_succ] at hK ⊢
                    unfold opStep
                    rw [if_neg (by change ¬ (false = true); exact Bool.false_ne_true)]
                    exact hK.out _ _ (Below.refl _ _) rfl _ rfl
                  case r1_13 =>
                    intro wq hbw st  K hK
                    have KQ := KW.out.trans (hbw.mono KW.out.size)
                    simp only [Act.put, List.setIfInBounds_toArray, List.set_cons_zero, List.set_cons_succ] at hK ⊢
                    unfold opStep
                    rw [if_neg (by change ¬ (false = true); exact Bool.false_ne_true)]
                    exact hK.out _ _ (Below.refl _ _) rfl _ rfl
                  case r1_14 =>
                    intro wq hbw st  K hK
                    have KQ := KW.out.trans (hbw.mono KW.out.size)
                    simp only [Act.put, List.setIfInBounds_toArray, List.set_cons_zero, List.set_cons_succ] at hK ⊢
                    unfold opStep
                    rw [if_neg (by change ¬ (false = true); exact Bool.false_ne_true)]
                    exact hK.out _ _ (Below.refl _ _) rfl _ rfl
                  case r1_15 =>
                    intro wq hbw st  K hK
                    have KQ := KW.out.trans (hbw.mono KW.out.size)
                    simp only [Act.put, List.setIfInBounds_toArray, List.set_cons_zero, List.set_cons_succ] at hK ⊢
                    unfold opStep
                    rw [if_neg (by change ¬ (false = true); exact Bool.false_ne_true)]
                    exact hK.out _ _ (Below.refl _ _) rfl _ rfl
                  case r1_16 =>
                    intro wq hbw st  K hK
                    have KQ := KW.out.trans (hbw.mono KW.out.size)
                    simp only [Act.put, List.setIfInBounds_toArray, List.set_cons_zero, List.set_cons_succ] at hK ⊢
                    unfold opStep
                    rw [if_neg (by change ¬ (false = true); exact Bool.false_ne_true)]
                    exact hK.out _ _ (Below.refl _ _) rfl _ rfl
                  case r1_17 =>
                    intro wq hbw st  K hK
                    have KQ := KW.out.trans (hbw.mono KW.out.size)
                    simp only [Act.put, List.setIfInBounds_toArray, List.set_cons_zero, List.set_cons_succ] at hK ⊢
                    unfold opStep
                    rw [if_neg (by change ¬ (false = true); exact Bool.false_ne_true)]
                    exact hK.out _ _ (Below.refl _ _) rfl _ rfl
                  case r1_18 =>
                    intro wq hbw st  K hK
                    have KQ := KW.out.trans (hbw.mono KW.out.size)
                    simp only [Act.put, List.setIfInBounds_toArray, List.set_cons_zero, List.set_cons_succ] at hK ⊢
                    unfold opStep
                    rw [if_neg (by change ¬ (false = true); exact Bool.false_ne_true)]
                    exact hK.out _ _ (Below.refl _ _) rfl _ rfl
                  case r1_19 =>
                    intro wq hbw st  K hK
                    have KQ := KW.out.trans (hbw.mono KW.out.size)
                    simp only [Act.put, List.setIfInBounds_toArray, List.set_cons_zero, List.set_cons_succ] at hK ⊢
                    unfold opStep
                    rw [if_neg (by change ¬ (false = true); exact Bool.false_ne_true)]
                    exact hK.out _ _ (Below.refl _ _) rfl _ rfl
                  case r1_20 =>
                    intro wq hbw st  K hK
                    have KQ := KW.out.trans (hbw.mono KW.out.size)
                    simp only [Act.put, List.setIfInBounds_toArray, List.set_cons_zero, List.set_cons_succ] at hK ⊢
                    unfold opStep
                    rw [if_neg (by change ¬ (false = true); exact Bool.false_ne_true)]
                    exact hK.out _ _ (Below.refl _ _) rfl _ rfl
                  case r1_21 =>
                    intro wq hbw st  K hK
                    have KQ := KW.out.trans (hbw.mono KW.out.size)
                    simp only [Act.put, List.setIfInBounds_toArray, List.set_cons_zero, List.set_cons_succ] at hK ⊢
                    unfold opStep
                    rw [if_neg (by change ¬ (false = true); exact Bool.false_ne_true)]
                    exact hK.out _ _ (Below.refl _ _) rfl _ rfl
                  case r1_22 =>
                    intro wq hbw st  K hK
                    have KQ := KW.out.trans (hbw.mono KW.out.size)
                    simp only [Act.put, List.setIfInBounds_toArray, List.set_cons_zero, List.set_cons_succ] at hK ⊢
                    unfold opStep
                    rw [if_neg (by change ¬ (false = true); exact Bool.false_ne_true)]
                    exact hK.out _ _ (Below.refl _ _) rfl _ rfl
                  case r1_23 =>
                    intro wq hbw st  K hK
                    have KQ := KW.out.trans (hbw.mono KW.out.size)
                    simp only [Act.put, List.setIfInBounds_toArray, List.set_cons_zero, List.set_cons_succ] at hK ⊢
                    unfold opStep
                    rw [if_neg (by change ¬ (false = true); exact Bool.false_ne_true)]
                    exact hK.out _ _ (Below.refl _ _) rfl _ rfl
                  case r1_24 =>
                    intro wq hbw st  K hK
                    have KQ := KW.out.trans (hbw.mono KW.out.size)
                    simp only [Act.put, List.setIfInBounds_toArray, List.set_cons_zero, List.set_cons_succ] at hK ⊢
                    unfold opStep
                    rw [if_neg (by change ¬ (false = true); exact Bool.false_ne_true)]
                    exact hK.out _ _ (Below.refl _ _) rfl _ rfl
                  case r1_25 =>
                    intro wq hbw st  K hK
                    have KQ := KW.out.trans (hbw.mono KW.out.size)
                    simp only [Act.put, List.setIfInBounds_toArray, List.set_cons_zero, List.set_cons_succ] at hK ⊢
                    unfold opStep
                    rw [if_neg (by change ¬ (false = true); exact Bool.false_ne_true)]
                    exact hK.out _ _ (Below.refl _ _) rfl _ rfl
                  case r1_26 =>
                    intro wq hbw st  K hK
                    have KQ := KW.out.trans (hbw.mono KW.out.size)
                    simp only [Act.put, List.setIfInBounds_toArray, List.set_cons_zero, List.set_cons_succ] at hK ⊢
                    unfold opStep
                    rw [if_neg (by change ¬ (false = true); exact Bool.false_ne_true)]
                    exact hK.out _ _ (Below.refl _ _) rfl _ rfl
                  case r1_27 =>
                    intro wq hbw st  K hK
                    have KQ := KW.out.trans (hbw.mono KW.out.size)
                    simp only [Act.put, List.setIfInBounds_toArray, List.set_cons_zero, List.set_cons_succ] at hK ⊢
                    unfold opStep
                    rw [if_pos (by rfl)]
                    go_simp
                    exact hK.out _ _ (Below.refl _ _) rfl _ rfl
                  case r1_28 =>
                    intro wq hbw st  K hK
                    have KQ := KW.out.trans (hbw.mono KW.out.size)
                    simp only [Act.put, List.setIfInBounds_toArray, List.set_cons_zero, List.set_cons_succ] at hK ⊢
                    unfold opStep
                    rw [if_pos (by rfl)]
                    go_simp
                    exact hK.out _ _ (Below.refl _ _) rfl _ rfl
                  case r1_fin =>
                    intro wq hbw
                    try simp only [FinAll]
                    simp only [Act.put, List.setIfInBounds_toArray, List.set_cons_zero, List.set_cons_succ]
                    replace KW := Lib.hid (KW.out.trans (hbw.mono KW.out.size))
                    clear hbw
                    go_wp2
                    go_roundg (h.length - (q + 1))
                    case measure => have := HM2.out; omega
                    case rel => exact ⟨q + 1, by omega, by go_num, vint (by rw [HRY.out (by rw [HPE.out.1]; exact P1.out), List.length_append, List.length_singleton, HRS.out.1]; omega), by rw [HVL.out], KW.out⟩
                | true =>
                  by_cases hkq : k = q
                  · have ekq : ((k : Int) == (q : Int)) = true := beq_t (by omega)
                    have HVL : Hid (sqB h k (q + 1) = true) := Lib.hid (by rw [HST.out, decide_eq_true hkq]; rfl)
                    clear hkq
                    go_wp2_with fail
                    refine region_left [.is (.bool true), .is (.bool true), .is (.int .i64 k), .is (.int .i64 q), .is (.bool true), .is (.bool true), .is undef, .is undef, .is undef, .is undef, .is undef, .is undef, .is undef, .is undef, .is undef, .is (.bool true), .is (.bool true), .is undef, .is undef, .is undef, .is undef, .is undef, .is undef, .is undef, .is undef, .is undef, .is (.bool true), .is (.bool true), .is (.bool true)] (by kernel_rfl) rfl (by kernel_rfl) (by kernel_rfl) (.cons ?r2_0 (.cons ?r2_1 (.cons ?r2_2 (.cons ?r2_3 (.cons ?r2_4 (.cons ?r2_5 (.cons ?r2_6 (.cons ?r2_7 (.cons ?r2_8 (.cons ?r2_9 (.cons ?r2_10 (.cons ?r2_11 (.cons ?r2_12 (.cons ?r2_13 (.cons ?r2_14 (.cons ?r2_15 (.cons ?r2_16 (.cons ?r2_17 (.cons ?r2_18 (.cons ?r2_19 (.cons ?r2_20 (.cons ?r2_21 (.cons ?r2_22 (.cons ?r2_23 (.cons ?r2_24 (.cons ?r2_25 (.cons ?r2_26 (.cons ?r2_27 (.cons ?r2_28 .nil))))))))))))))))))))))))))))) ?r2_fin
                    case r2_0 =>
                      intro wq hbw st  K hK
                      have KQ := KW.out.trans (hbw.mono KW.out.size)
                      simp only [Act.put, List.setIfInBounds_toArray, List.set_cons_zero, List.set_cons_succ] at hK ⊢
                      unfold opStep
                      rw [if_pos (by rfl)]
                      go_simp
                      exact hK.out _ _ (Below.refl _ _) rfl _ rfl
                    case r2_1 =>
                      intro wq hbw st  K hK
                      have KQ := KW.out.trans (hbw.mono KW.out.size)
                      simp only [Act.put, List.setIfInBounds_toArray, List.set_cons_zero, List.set_cons_succ] at hK ⊢
                      unfold opStep
                      rw [if_pos (by rfl)]
                      go_simp
                      exact hK.out _ _ (Below.refl _ _) rfl _ rfl
                    case r2_2 =>
                      intro wq hbw st  K hK
                      have KQ := KW.out.trans (hbw.mono KW.out.size)
                      simp only [Act.put, List.setIfInBounds_toArray, List.set_cons_zero, List.set_cons_succ] at hK ⊢
                      unfold opStep
                      rw [if_pos (by rfl)]
                      go_simp
                      exact hK.out _ _ (Below.refl _ _) rfl _ rfl
                    case r2_3 =>
                      intro wq hbw st  K hK
                      have KQ := KW.out.trans (hbw.mono KW.out.size)
                      simp only [Act.put, List.setIfInBounds_toArray, List.set_cons_zero, List.set_cons_succ] at hK ⊢
                      unfold opStep
                      rw [if_pos (by rfl)]
                      go_simp
                      exact hK.out _ _ (Below.refl _ _) rfl _ rfl
                    case r2_4 =>
                      intro wq hbw st  K hK
                      have KQ := KW.out.trans (hbw.mono KW.out.size)
                      simp only [Act.put, List.setIfInBounds_toArray, List.set_cons_zero, List.set_cons_succ] at hK ⊢
                      unfold opStep
                      rw [if_pos (by rfl)]
                      go_simp
                      exact hK.out _ _ (Below.refl _ _) rfl _ rfl
                    case r2_5 =>
                      intro wq hbw st  K hK
                      have KQ := KW.out.trans (hbw.mono KW.out.size)
                      simp only [Act.put, List.setIfInBounds_toArray, List.set_cons_zero, List.set_cons_succ] at hK ⊢
                      unfold opStep
                      rw [if_pos (by rfl)]
                      go_simp
                      exact hK.out _ _ (Below.refl _ _) rfl _ rfl
                    case r2_6 =>
                      intro wq hbw st  K hK
                      have KQ := KW.out.trans (hbw.mono KW.out.size)
                      simp only [Act.put, List.setIfInBounds_toArray, List.set_cons_zero, List.set_cons_succ] at hK ⊢
                      unfold opStep
                      rw [if_neg (by change ¬ (false = true); exact Bool.false_ne_true)]
                      exact hK.out _ _ (Below.refl _ _) rfl _ rfl
                    case r2_7 =>
                      intro wq hbw st  K hK
                      have KQ := KW.out.trans (hbw.mono KW.out.size)
                      simp only [Act.put, List.setIfInBounds_toArray, List.set_cons_zero, List.set_cons_succ] at hK ⊢
                      unfold opStep
                      rw [if_neg (by change ¬ (false = true); exact Bool.false_ne_true)]
                      exact hK.out _ _ (Below.refl _ _) rfl _ rfl
                    case r2_8 =>
                      intro wq hbw st  K hK
                      have KQ := KW.out.trans (hbw.mono KW.out.size)
                      simp only [Act.put, List.setIfInBounds_toArray, List.set_cons_zero, List.set_cons_succ] at hK ⊢
                      unfold opStep
                      rw [if_neg (by change ¬ (false = true); exact Bool.false_ne_true)]
                      exact hK.out _ _ (Below.refl _ _) rfl _ rfl
                    case r2_9 =>
                      intro wq hbw st  K hK
                      have KQ := KW.out.trans (hbw.mono KW.out.size)
                      simp only [Act.put, List.setIfInBounds_toArray, List.set_cons_zero, List.set_cons_succ] at hK ⊢
                      unfold opStep
                      rw [if_neg (by change ¬ (false = true); exact Bool.false_ne_true)]
                      exact hK.out _ _ (Below.refl _ _) rfl _ rfl
                    case r2_10 =>
                      intro wq hbw st  K hK
                      have KQ := KW.out.trans (hbw.mono KW.out.size)
                      simp only [Act.put, List.setIfInBounds_toArray, List.set_cons_zero, List.set_cons_succ] at hK ⊢
                      unfold opStep
                      rw [if_neg (by change ¬ (false = true); exact Bool.false_ne_true)]
                      exact hK.out _ _ (Below.refl _ _) rfl _ rfl
                    case r2_11 =>
                      intro wq hbw st  K hK
                      have KQ := KW.out.trans (hbw.mono KW.out.size)
                      simp only [Act.put, List.setIfInBounds_toArray, List.set_cons_zero, List.set_cons_succ] at hK ⊢
                      unfold opStep
                      rw [if_neg (by change ¬ (false = true); exact Bool.false_ne_true)]
                      exact hK.out _ _ (Below.refl _ _) rfl _ rfl
                    case r2_12 =>
                      intro wq hbw st  K hK
                      have KQ := KW.out.trans (hbw.mono KW.out.size)
                      simp only [Act.put, List.setIfInBounds_toArray, List.set_cons_zero, List.set_cons_succ] at hK ⊢
                      unfold opStep
                      rw [if_neg (by change ¬ (false = true); exact Bool.false_ne_true)]
                      exact hK.out _ _ (Below.refl _ _) rfl _ rfl
                    case r2_13 =>
                      intro wq hbw st  K hK
                      have KQ := KW.out.trans (hbw.mono KW.out.size)
                      simp only [Act.put, List.setIfInBounds_toArray, List.set_cons_zero, List.set_cons_succ] at hK ⊢
                      unfold opStep
                      rw [if_neg (by change ¬ (false = true); exact Bool.false_ne_true)]
                      exact hK.out _ _ (Below.refl _ _) rfl _ rfl
                    case r2_14 =>
                      intro wq hbw st  K hK
                      have KQ := KW.out.trans (hbw.mono KW.out.size)
                      simp only [Act.put, List.setIfInBounds_toArray, List.set_cons_zero, List.set_cons_succ] at hK ⊢
                      unfold opStep
                      rw [if_neg (by change ¬ (false = true); exact Bool.false_ne_true)]
                      exact hK.out _ _ (Below.refl _ _) rfl _ rfl
                    case r2_15 =>
                      intro wq hbw st  K hK
                      have KQ := KW.out.trans (hbw.mono KW.out.size)
                      simp only [Act.put, List.setIfInBounds_toArray, List.set_cons_zero, List.set_cons_succ] at hK ⊢
                      unfold opStep
                      rw [if_pos (by rfl)]
                      go_simp
                      exact hK.out _ _ (Below.refl _ _) rfl _ rfl
                    case r2_16 =>
                      intro wq hbw st  K hK
                      have KQ := KW.out.trans (hbw.mono KW.out.size)
                      simp only [Act.put, List.setIfInBounds_toArray, List.set_cons_zero, List.set_cons_succ] at hK ⊢
                      unfold opStep
                      rw [if_pos (by rfl)]
                      go_simp
                      exact hK.out _ _ (Below.refl _ _) rfl _ rfl
                    case r2_17 =>
                      intro wq hbw st  K hK
                      have KQ := KW.out.trans (hbw.mono KW.out.size)
                      simp only [Act.put, List.setIfInBounds_toArray, List.set_cons_zero, List.set_cons_succ] at hK ⊢
                      unfold opStep
                      rw [if_neg (by change ¬ (false = true); exact Bool.false_ne_true)]
                      exact hK.out _ _ (Below.refl _ _) rfl _ rfl
                    case r2_18 =>
                      intro wq hbw st  K hK
                      have KQ := KW.out.trans (hbw.mono KW.out.size)
                      simp only [Act.put, List.setIfInBounds_toArray, List.set_cons_zero, List.set_cons_succ] at hK ⊢
                      unfold opStep
                      rw [if_neg (by change ¬ (false = true); exact Bool.false_ne_true)]
                      exact hK.out _ _ (Below.refl _ _) rfl _ rfl
                    case r2_19 =>
                      intro wq hbw st  K hK
                      have KQ := KW.out.trans (hbw.mono KW.out.size)
                      simp only [Act.put, List.setIfInBounds_toArray, List.set_cons_zero, List.set_cons_succ] at hK ⊢
                      unfold opStep
                      rw [if_neg (by change ¬ (false = true); exact Bool.false_ne_true)]
                      exact hK.out _ _ (Below.refl _ _) rfl _ rfl
                    case r2_20 =>
                      intro wq hbw st  K hK
                      have KQ := KW.out.trans (hbw.mono KW.out.size)
                      simp only [Act.put, List.setIfInBounds_toArray, List.set_cons_zero, List.set_cons_succ] at hK ⊢
                      unfold opStep
                      rw [if_neg (by change ¬ (false = true); exact Bool.false_ne_true)]
                      exact hK.out _ _ (Below.refl _ _) rfl _ rfl
                    case r2_21 =>
                      intro wq hbw st  K hK
                      have KQ := KW.out.trans (hbw.mono KW.out.size)
                      simp only [Act.put, List.setIfInBounds_toArray, List.set_cons_zero, List.set_cons_succ] at hK ⊢
                      unfold opStep
                      rw [if_neg (by change ¬ (false = true); exact Bool.false_ne_true)]
                      exact hK.out _ _ (Below.refl _ _) rfl _ rfl
                    case r2_22 =>
                      intro wq hbw st  K hK
                      have KQ := KW.out.trans (hbw.mono KW.out.size)
                      simp only [Act.put, List.setIfInBounds_toArray, List.set_cons_zero, List.set_cons_succ] at hK ⊢
                      unfold opStep
                      rw [if_neg (by change ¬ (false = true); exact Bool.false_ne_true)]
                      exact hK.out _ _ (Below.refl _ _) rfl _ rfl
                    case r2_23 =>
                      intro wq hbw st  K hK
                      have KQ := KW.out.trans (hbw.mono KW.out.size)
                      simp only [Act.put, List.setIfInBounds_toArray, List.set_cons_zero, List.set_cons_succ] at hK ⊢
                      unfold opStep
                      rw [if_neg (by change ¬ (false = true); exact Bool.false_ne_true)]
                      exact hK.out _ _ (Below.refl _ _) rfl _ rfl
                    case r2_24 =>
                      intro wq hbw st  K hK
                      have KQ := KW.out.trans (hbw.mono KW.out.size)
                      simp only [Act.put, List.setIfInBounds_toArray, List.set_cons_zero, List.set_cons_succ] at hK ⊢
                      unfold opStep
                      rw [if_neg (by change ¬ (false = true); exact Bool.false_ne_true)]
                      exact hK.out _ _ (Below.refl _ _) rfl _ rfl
                    case r2_25 =>
                      intro wq hbw st  K hK
                      have KQ := KW.out.trans (hbw.mono KW.out.size)
                      simp only [Act.put, List.setIfInBounds_toArray, List.set_cons_zero, List.set_cons_succ] at hK ⊢
                      unfold opStep
                      rw [if_neg (by change ¬ (false = true); exact Bool.false_ne_true)]
                      exact hK.out _ _ (Below.refl _ _) rfl _ rfl
                    case r2_26 =>
                      intro wq hbw st  K hK
                      have KQ := KW.out.trans (hbw.mono KW.out.size)
                      simp only [Act.put, List.setIfInBounds_toArray, List.set_cons_zero, List.set_cons_succ] at hK ⊢
                      unfold opStep
                      rw [if_pos (by rfl)]
                      go_simp
                      exact hK.out _ _ (Below.refl _ _) rfl _ rfl
                    case r2_27 =>
                      intro wq hbw st  K hK
                      have KQ := KW.out.trans (hbw.mono KW.out.size)
                      simp only [Act.put, List.setIfInBounds_toArray, List.set_cons_zero, List.set_cons_succ] at hK ⊢
                      unfold opStep
                      rw [if_pos (by rfl)]
                      go_simp
                      exact hK.out _ _ (Below.refl _ _) rfl _ rfl
                    case r2_28 =>
                      intro wq hbw st  K hK
                      have KQ := KW.out.trans (hbw.mono KW.out.size)
                      simp only [Act.put, List.setIfInBounds_toArray, List.set_cons_zero, List.set_cons_succ] at hK ⊢
                      unfold opStep
                      rw [if_pos (by rfl)]
                      go_simp
                      exact hK.out _ _ (Below.refl _ _) rfl _ rfl
                    case r2_fin =>
                      intro wq hbw
                      try simp only [FinAll]
                      simp only [Act.put, List.setIfInBounds_toArray, List.set_cons_zero, List.set_cons_succ]
                      replace KW := Lib.hid (KW.out.trans (hbw.mono KW.out.size))
                      clear hbw
                      go_wp2
                      go_roundg (h.length - (q + 1))
                      case measure => have := HM2.out; omega
                      case rel => exact ⟨q + 1, by omega, by go_num, vint (by rw [HRY.out (by rw [HPE.out.1]; exact P1.out), List.length_append, List.length_singleton, HRS.out.1]; omega), by rw [HVL.out], KW.out⟩
                  · have ekq : ((k : Int) == (q : Int)) = false := beq_f (by omega)
                    have HVL : Hid (sqB h k (q + 1) = true) := Lib.hid (by rw [HST.out, HPE.out.1, P1.out]; simp)
                    clear hkq
                    go_wp2_with fail
                    refine region_left [.is (.bool true), .is (.bool true), .is (.int .i64 k), .is (.int .i64 q), .is (.bool false), .is (.bool false), .is (.slice (some ⟨b, off, none⟩) h.length cap), .is (.int .i64 k), .is (.pointer (some ⟨b, off + k * 6, none⟩)), .is (.agg #[.int .i64 (cliO x), .int .i64 (kindO x), .int .i64 (begO x), .int .i64 (endO x), .slice a4 (addO x).length c4, .slice a5 (seeO x).length c5]), .is (.slice (some ⟨b, off, none⟩) h.length cap), .is (.int .i64 q), .is (.pointer (some ⟨b, off + q * 6, none⟩)), .is (.agg #[.int .i64 (cliO y), .int .i64 (kindO y), .int .i64 (begO y), .int .i64 (endO y), .slice d4 (addO y).length k4, .slice d5 (seeO y).length k5]), .is (.bool true), .is (.bool true), .is (.bool true), .is undef, .is undef, .is undef, .is undef, .is undef, .is undef, .is undef, .is undef, .is undef, .is (.bool true), .is (.bool true), .is (.bool true)] (by kernel_rfl) rfl (by kernel_rfl) (by kernel_rfl) (.cons ?r3_0 (.cons ?r3_1 (.cons ?r3_2 (.cons ?r3_3 (.cons ?r3_4 (.cons ?r3_5 (.cons ?r3_6 (.cons ?r3_7 (.cons ?r3_8 (.cons ?r3_9 (.cons ?r3_10 (.cons ?r3_11 (.cons ?r3_12 (.cons ?r3_13 (.cons ?r3_14 (.cons ?r3_15 (.cons ?r3_16 (.cons ?r3_17 (.cons ?r3_18 (.cons ?r3_19 (.cons ?r3_20 (.cons ?r3_21 (.cons ?r3_22 (.cons ?r3_23 (.cons ?r3_24 (.cons ?r3_25 (.cons ?r3_26 (.cons ?r3_27 (.cons ?r3_28 .nil))))))))))))))))))))))))))))) ?r3_fin
                    case r3_0 =>
                      intro wq hbw st  K hK
                      have KQ := KW.out.trans (hbw.mono KW.out.size)
                      simp only [Act.put, List.setIfInBounds_toArray, List.set_cons_zero, List.set_cons_succ] at hK ⊢
                      unfold opStep
                      rw [if_pos (by rfl)]
                      go_simp
                      exact hK.out _ _ (Below.refl _ _) rfl _ rfl
                    case r3_1 =>
                      intro wq hbw st  K hK
                      have KQ := KW.out.trans (hbw.mono KW.out.size)
                      simp only [Act.put, List.setIfInBounds_toArray, List.set_cons_zero, List.set_cons_succ] at hK ⊢
                      unfold opStep
                      rw [if_pos (by rfl)]
                      go_simp
                      exact hK.out _ _ (Below.refl _ _) rfl _ rfl
                    case r3_2 =>
                      intro wq hbw st  K hK
                      have KQ := KW.out.trans (hbw.mono KW.out.size)
                      simp only [Act.put, List.setIfInBounds_toArray, List.set_cons_zero, List.set_cons_succ] at hK ⊢
                      unfold opStep
                      rw [if_pos (by rfl)]
                      go_simp
                      exact hK.out _ _ (Below.refl _ _) rfl _ rfl
                    case r3_3 =>
                      intro wq hbw st  K hK
                      have KQ := KW.out.trans (hbw.mono KW.out.size)
                      simp only [Act.put, List.setIfInBounds_toArray, List.set_cons_zero, List.set_cons_succ] at hK ⊢
                      unfold opStep
                      rw [if_pos (by rfl)]
                      go_simp
                      exact hK.out _ _ (Below.refl _ _) rfl _ rfl
                    case r3_4 =>
                      intro wq hbw st  K hK
                      have KQ := KW.out.trans (hbw.mono KW.out.size)
                      simp only [Act.put, List.setIfInBounds_toArray, List.set_cons_zero, List.set_cons_succ] at hK ⊢
                      unfold opStep
                      rw [if_pos (by rfl)]
                      go_simp
                      exact hK.out _ _ (Below.refl _ _) rfl _ rfl
                    case r3_5 =>
                      intro wq hbw st  K hK
                      have KQ := KW.out.trans (hbw.mono KW.out.size)
                      simp only [Act.put, List.setIfInBounds_toArray, List.set_cons_zero, List.set_cons_succ] at hK ⊢
                      unfold opStep
                      rw [if_pos (by rfl)]
                      go_simp
                      exact hK.out _ _ (Below.refl _ _) rfl _ rfl
                    case r3_6 =>
                      intro wq hbw st  K hK
                      have KQ := KW.out.trans (hbw.mono KW.out.size)
                      simp only [Act.put, List.setIfInBounds_toArray, List.set_cons_zero, List.set_cons_succ] at hK ⊢
                      unfold opStep
                      rw [if_pos (by rfl)]
                      go_simp
                      exact hK.out _ _ (Below.refl _ _) rfl _ rfl
                    case r3_7 =>
                      intro wq hbw st  K hK
                      have KQ := KW.out.trans (hbw.mono KW.out.size)
                      simp only [Act.put, List.setIfInBounds_toArray, List.set_cons_zero, List.set_cons_succ] at hK ⊢
                      unfold opStep
                      rw [if_pos (by rfl)]
                      go_simp
                      exact hK.out _ _ (Below.refl _ _) rfl _ rfl
                    case r3_8 =>
                      intro wq hbw st  K hK
                      have KQ := KW.out.trans (hbw.mono KW.out.size)
                      simp only [Act.put, List.setIfInBounds_toArray, List.set_cons_zero, List.set_cons_succ] at hK ⊢
                      unfold opStep
                      rw [if_pos (by rfl)]
                      go_simp
                      exact hK.out _ _ (Below.refl _ _) rfl _ rfl
                    case r3_9 =>
                      intro wq hbw st  K hK
                      have KQ := KW.out.trans (hbw.mono KW.out.size)
                      simp only [Act.put, List.setIfInBounds_toArray, List.set_cons_zero, List.set_cons_succ] at hK ⊢
                      unfold opStep
                      rw [if_pos (by rfl)]
                      have dd := Lib.hid (HN.out.1 wq KQ)
                      have d0 := dd.out.1
                      have d1 := dd.out.2.1
                      have d2 := dd.out.2.2.1
                      have d3 := dd.out.2.2.2.1
                      have d4 := dd.out.2.2.2.2.1
                      have d5 := dd.out.2.2.2.2.2
                      go_simp
                      exact hK.out _ _ (Below.refl _ _) rfl _ rfl
                    case r3_10 =>
                      intro wq hbw st  K hK
                      have KQ := KW.out.trans (hbw.mono KW.out.size)
                      simp only [Act.put, List.setIfInBounds_toArray, List.set_cons_zero, List.set_cons_succ] at hK ⊢
                      unfold opStep
                      rw [if_pos (by rfl)]
                      go_simp
                      exact hK.out _ _ (Below.refl _ _) rfl _ rfl
                    case r3_11 =>
                      intro wq hbw st  K hK
                      have KQ := KW.out.trans (hbw.mono KW.out.size)
                      simp only [Act.put, List.setIfInBounds_toArray, List.set_cons_zero, List.set_cons_succ] at hK ⊢
                      unfold opStep
                      rw [if_pos (by rfl)]
                      go_simp
                      exact hK.out _ _ (Below.refl _ _) rfl _ rfl
                    case r3_12 =>
                      intro wq hbw st  K hK
                      have KQ := KW.out.trans (hbw.mono KW.out.size)
                      simp only [Act.put, List.setIfInBounds_toArray, List.set_cons_zero, List.set_cons_succ] at hK ⊢
                      unfold opStep
                      rw [if_pos (by rfl)]
                      go_simp
                      exact hK.out _ _ (Below.refl _ _) rfl _ rfl
                    case r3_13 =>
                      intro wq hbw st  K hK
                      have KQ := KW.out.trans (hbw.mono KW.out.size)
                      simp only [Act.put, List.setIfInBounds_toArray, List.set_cons_zero, List.set_cons_succ] at hK ⊢
                      unfold opStep
                      rw [if_pos (by rfl)]
                      have dd := Lib.hid (HN2.out.1 wq KQ)
                      have d0 := dd.out.1
                      have d1 := dd.out.2.1
                      have d2 := dd.out.2.2.1
                      have d3 := dd.out.2.2.2.1
                      have d4 := dd.out.2.2.2.2.1
                      have d5 := dd.out.2.2.2.2.2
                      go_simp
                      exact hK.out _ _ (Below.refl _ _) rfl _ rfl
                    case r3_14 =>
                      intro wq hbw st  K hK
                      have KQ := KW.out.trans (hbw.mono KW.out.size)
                      simp only [Act.put, List.setIfInBounds_toArray, List.set_cons_zero, List.set_cons_succ] at hK ⊢
                      unfold opStep
                      rw [if_pos (by rfl)]
                      go_simp
                      have hpc := rprec_any _ _ x y wq ⟨_, _, rfl, HN.out.2.1.keep KQ, HN.out.2.2.keep KQ⟩ ⟨_, _, rfl, HN2.out.2.1.keep KQ, HN2.out.2.2.keep KQ⟩
                      rw [P1.out] at hpc
                      refine hpc.mono ?_
                      rintro e wz ⟨rfl, hbz⟩
                      go_simp
                      exact hK.out _ _ hbz rfl _ rfl
                    case r3_15 =>
                      intro wq hbw st  K hK
                      have KQ := KW.out.trans (hbw.mono KW.out.size)
                      simp only [Act.put, List.setIfInBounds_toArray, List.set_cons_zero, List.set_cons_succ] at hK ⊢
                      unfold opStep
                      rw [if_pos (by rfl)]
                      go_simp
                      exact hK.out _ _ (Below.refl _ _) rfl _ rfl
                    case r3_16 =>
                      intro wq hbw st  K hK
                      have KQ := KW.out.trans (hbw.mono KW.out.size)
                      simp only [Act.put, List.setIfInBounds_toArray, List.set_cons_zero, List.set_cons_succ] at hK ⊢
                      unfold opStep
                      rw [if_pos (by rfl)]
                      go_simp
                      exact hK.out _ _ (Below.refl _ _) rfl _ rfl
                    case r3_17 =>
                      intro wq hbw st  K hK
                      have KQ := KW.out.trans (hbw.mono KW.out.size)
                      simp only [Act.put, List.setIfInBounds_toArray, List.set_cons_zero, List.set_cons_succ] at hK ⊢
                      unfold opStep
                      rw [if_neg (by change ¬ (false = true); exact Bool.false_ne_true)]
                      exact hK.out _ _ (Below.refl _ _) rfl _ rfl
                    case r3_18 =>
                      intro wq hbw st  K hK
                      have KQ := KW.out.trans (hbw.mono KW.out.size)
                      simp only [Act.put, List.setIfInBounds_toArray, List.set_cons_zero, List.set_cons_succ] at hK ⊢
                      unfold opStep
                      rw [if_neg (by change ¬ (false = true); exact Bool.false_ne_true)]
                      exact hK.out _ _ (Below.refl _ _) rfl _ rfl
                    case r3_19 =>
                      intro wq hbw st  K hK
                      have KQ := KW.out.trans (hbw.mono KW.out.size)
                      simp only [Act.put, List.setIfInBounds_toArray, List.set_cons_zero, List.set_cons_succ] at hK ⊢
                      unfold opStep
                      rw [if_neg (by change ¬ (false = true); exact Bool.false_ne_true)]
                      exact hK.out _ _ (Below.refl _ _) rfl _ rfl
                    case r3_20 =>
                      intro wq hbw st  K hK
                      have KQ := KW.out.trans (hbw.mono KW.out.size)
                      simp only [Act.put, List.setIfInBounds_toArray, List.set_cons_zero, List.set_cons_succ] at hK ⊢
                      unfold opStep
                      rw [if_neg (by change ¬ (false = true); exact Bool.false_ne_true)]
                      exact hK.out _ _ (Below.refl _ _) rfl _ rfl
                    case r3_21 =>
                      intro wq hbw st  K hK
                      have KQ := KW.out.trans (hbw.mono KW.out.size)
                      simp only [Act.put, List.setIfInBounds_toArray, List.set_cons_zero, List.set_cons_succ] at hK ⊢
                      unfold opStep
                      rw [if_neg (by change ¬ (false = true); exact Bool.false_ne_true)]
                      exact hK.out _ _ (Below.refl _ _) rfl _ rfl
                    case r3_22 =>
                      intro wq hbw st  K hK
                      have KQ := KW.out.trans (hbw.mono KW.out.size)
                      simp only [Act.put, List.setIfInBounds_toArray, List.set_cons_zero, List.set_cons_succ] at hK ⊢
                      unfold opStep
                      rw [if_neg (by change ¬ (false = true); exact Bool.false_ne_true)]
                      exact hK.out _ _ (Below.refl _ _) rfl _ rfl
                    case r3_23 =>
                      intro wq hbw st  K hK
                      have KQ := KW.out.trans (hbw.mono KW.out.size)
                      simp only [Act.put, List.setIfInBounds_toArray, List.set_cons_zero, List.set_cons_succ] at hK ⊢
                      unfold opStep
                      rw [if_neg (by change ¬ (false = true); exact Bool.false_ne_true)]
                      exact hK.out _ _ (Below.refl _ _) rfl _ rfl
                    case r3_24 =>
                      intro wq hbw st  K hK
                      have KQ := KW.out.trans (hbw.mono KW.out.size)
                      simp only [Act.put, List.setIfInBounds_toArray, List.set_cons_zero, List.set_cons_succ] at hK ⊢
                      unfold opStep
                      rw [if_neg (by change ¬ (false = true); exact Bool.false_ne_true)]
                      exact hK.out _ _ (Below.refl _ _) rfl _ rfl
                    case r3_25 =>
                      intro wq hbw st  K hK
                      have KQ := KW.out.trans (hbw.mono KW.out.size)
                      simp only [Act.put, List.setIfInBounds_toArray, List.set_cons_zero, List.set_cons_succ] at hK ⊢
                      unfold opStep
                      rw [if_neg (by change ¬ (false = true); exact Bool.false_ne_true)]
                      exact hK.out _ _ (Below.refl _ _) rfl _ rfl
                    case r3_26 =>
                      intro wq hbw st  K hK
                      have KQ := KW.out.trans (hbw.mono KW.out.size)
                      simp only [Act.put, List.setIfInBounds_toArray, List.set_cons_zero, List.set_cons_succ] at hK ⊢
                      unfold opStep
                      rw [if_pos (by rfl)]
                      go_simp
                      exact hK.out _ _ (Below.refl _ _) rfl _ rfl
                    case r3_27 =>
                      intro wq hbw st  K hK
                      have KQ := KW.out.trans (hbw.mono KW.out.size)
                      simp only [Act.put, List.setIfInBounds_toArray, List.set_cons_zero, List.set_cons_succ] at hK ⊢
                      unfold opStep
                      rw [if_pos (by rfl)]
                      go_simp
                      exact hK.out _ _ (Below.refl _ _) rfl _ rfl
                    case r3_28 =>
                      intro wq hbw st  K hK
                      have KQ := KW.out.trans (hbw.mono KW.out.size)
                      simp only [Act.put, List.setIfInBounds_toArray, List.set_cons_zero, List.set_cons_succ] at hK ⊢
                      unfold opStep
                      rw [if_pos (by rfl)]
                      go_simp
                      exact hK.out _ _ (Below.refl _ _) rfl _ rfl
                    case r3_fin =>
                      intro wq hbw
                      try simp only [FinAll]
                      simp only [Act.put, List.setIfInBounds_toArray, List.set_cons_zero, List.set_cons_succ]
                      replace KW := Lib.hid (KW.out.trans (hbw.mono KW.out.size))
                      clear hbw
                      go_wp2
                      go_roundg (h.length - (q + 1))
                      case measure => have := HM2.out; omega
                      case rel => exact ⟨q + 1, by omega, by go_num, vint (by rw [HRY.out (by rw [HPE.out.1]; exact P1.out), List.length_append, List.length_singleton, HRS.out.1]; omega), by rw [HVL.out], KW.out⟩
            · have P1 := Lib.hid (Bool.eq_false_iff.2 p1)
              clear p1 HPA
              go_wp2_with fail
              refine region_left [.is (.slice (some ⟨b, off, none⟩) h.length cap), .is (.int .i64 k), .is (.pointer (some ⟨b, off + k * 6, none⟩)), .is (.agg #[.int .i64 (cliO x), .int .i64 (kindO x), .int .i64 (begO x), .int .i64 (endO x), .slice a4 (addO x).length c4, .slice a5 (seeO x).length c5]), .is (.slice (some ⟨b, off, none⟩) h.length cap), .is (.int .i64 q), .is (.pointer (some ⟨b, off + q * 6, none⟩)), .is (.agg #[.int .i64 (cliO y), .int .i64 (kindO y), .int .i64 (begO y), .int .i64 (endO y), .slice d4 (addO y).length k4, .slice d5 (seeO y).length k5]), .is (.bool false)] (by kernel_rfl) rfl (by kernel_rfl) (by kernel_rfl) (.cons ?q9_0 (.cons ?q9_1 (.cons ?q9_2 (.cons ?q9_3 (.cons ?q9_4 (.cons ?q9_5 (.cons ?q9_6 (.cons ?q9_7 (.cons ?q9_8 .nil))))))))) ?q9_fin
              case q9_0 =>
                intro wq hbw st  K hK
                have KQ := KW.out.trans (hbw.mono KW.out.size)
                simp only [Act.put, List.setIfInBounds_toArray, List.set_cons_zero, List.set_cons_succ] at hK ⊢
                unfold opStep
                rw [if_pos (by rfl)]
                go_simp
                exact hK.out _ _ (Below.refl _ _) rfl _ rfl
              case q9_1 =>
                intro wq hbw st  K hK
                have KQ := KW.out.trans (hbw.mono KW.out.size)
                simp only [Act.put, List.setIfInBounds_toArray, List.set_cons_zero, List.set_cons_succ] at hK ⊢
                unfold opStep
                rw [if_pos (by rfl)]
                go_simp
                exact hK.out _ _ (Below.refl _ _) rfl _ rfl
              case q9_2 =>
                intro wq hbw st  K hK
                have KQ := KW.out.trans (hbw.mono KW.out.size)
                simp only [Act.put, List.setIfInBounds_toArray, List.set_cons_zero, List.set_cons_succ] at hK ⊢
                unfold opStep
                rw [if_pos (by rfl)]
                go_simp
                exact hK.out _ _ (Below.refl _ _) rfl _ rfl
              case q9_3 =>
                intro wq hbw st  K hK
                have KQ := KW.out.trans (hbw.mono KW.out.size)
                simp only [Act.put, List.setIfInBounds_toArray, List.set_cons_zero, List.set_cons_succ] at hK ⊢
                unfold opStep
                rw [if_pos (by rfl)]
                have dd := Lib.hid (HN.out.1 wq KQ)
                have d0 := dd.out.1
                have d1 := dd.out.2.1
                have d2 := dd.out.2.2.1
                have d3 := dd.out.2.2.2.1
                have d4 := dd.out.2.2.2.2.1
                have d5 := dd.out.2.2.2.2.2
                go_simp
                exact hK.out _ _ (Below.refl _ _) rfl _ rfl
              case q9_4 =>
                intro wq hbw st  K hK
                have KQ := KW.out.trans (hbw.mono KW.out.size)
                simp only [Act.put, List.setIfInBounds_toArray, List.set_cons_zero, List.set_cons_succ] at hK ⊢
                unfold opStep
                rw [if_pos (by rfl)]
                go_simp
                exact hK.out _ _ (Below.refl _ _) rfl _ rfl
              case q9_5 =>
                intro wq hbw st  K hK
                have KQ := KW.out.trans (hbw.mono KW.out.size)
                simp only [Act.put, List.setIfInBounds_toArray, List.set_cons_zero, List.set_cons_succ] at hK ⊢
                unfold opStep
                rw [if_pos (by rfl)]
                go_simp
                exact hK.out _ _ (Below.refl _ _) rfl _ rfl
              case q9_6 =>
                intro wq hbw st  K hK
                have KQ := KW.out.trans (hbw.mono KW.out.size)
                simp only [Act.put, List.setIfInBounds_toArray, List.set_cons_zero, List.set_cons_succ] at hK ⊢
                unfold opStep
                rw [if_pos (by rfl)]
                go_simp
                exact hK.out _ _ (Below.refl _ _) rfl _ rfl
              case q9_7 =>
                intro wq hbw st  K hK
                have KQ := KW.out.trans (hbw.mono KW.out.size)
                simp only [Act.put, List.setIfInBounds_toArray, List.set_cons_zero, List.set_cons_succ] at hK ⊢
                unfold opStep
                rw [if_pos (by rfl)]
                have dd := Lib.hid (HN2.out.1 wq KQ)
                have d0 := dd.out.1
                have d1 := dd.out.2.1
                have d2 := dd.out.2.2.1
                have d3 := dd.out.2.2.2.1
                have d4 := dd.out.2.2.2.2.1
                have d5 := dd.out.2.2.2.2.2
                go_simp
                exact hK.out _ _ (Below.refl _ _) rfl _ rfl
              case q9_8 =>
                intro wq hbw st  K hK
                have KQ := KW.out.trans (hbw.mono KW.out.size)
                simp only [Act.put, List.setIfInBounds_toArray, List.set_cons_zero, List.set_cons_succ] at hK ⊢
                unfold opStep
                rw [if_pos (by rfl)]
                go_simp
                have hpc := rprec_any _ _ x y wq ⟨_, _, rfl, HN.out.2.1.keep KQ, HN.out.2.2.keep KQ⟩ ⟨_, _, rfl, HN2.out.2.1.keep KQ, HN2.out.2.2.keep KQ⟩
                rw [P1.out] at hpc
                refine hpc.mono ?_
                rintro e wz ⟨rfl, hbz⟩
                go_simp
                exact hK.out _ _ hbz rfl _ rfl
              case q9_fin =>
                intro wq hbw
                try simp only [FinAll]
                simp only [Act.put, List.setIfInBounds_toArray, List.set_cons_zero, List.set_cons_succ]
                replace KW := Lib.hid (KW.out.trans (hbw.mono KW.out.size))
                clear hbw
                cases S with
                | false =>
                  have HVL : Hid (sqB h k (q + 1) = false) := Lib.hid (by rw [HST.out]; rfl)
                  go_wp2_with fail
                  refine region_left [.is (.bool false), .is (.bool false), .is undef, .is undef, .is undef, .is undef, .is undef, .is undef, .is undef, .is undef, .is undef, .is undef, .is undef, .is undef, .is undef, .is undef, .is undef, .is undef, .is undef, .is undef, .is undef, .is undef, .is undef, .is undef, .is undef, .is undef, .is undef, .is (.bool false), .is (.bool false)] (by kernel_rfl) rfl (by kernel_rfl) (by kernel_rfl) (.cons ?r5_0 (.cons ?r5_1 (.cons ?r5_2 (.cons ?r5_3 (.cons ?r5_4 (.cons ?r5_5 (.cons ?r5_6 (.cons ?r5_7 (.cons ?r5_8 (.cons ?r5_9 (.cons ?r5_10 (.cons ?r5_11 (.cons ?r5_12 (.cons ?r5_13 (.cons ?r5_14 (.cons ?r5_15 (.cons ?r5_16 (.cons ?r5_17 (.cons ?r5_18 (.cons ?r5_19 (.cons ?r5_20 (.cons ?r5_21 (.cons ?r5_22 (.cons ?r5_23 (.cons ?r5_24 (.cons ?r5_25 (.cons ?r5_26 (.cons ?r5_27 (.cons ?r5_28 .nil))))))))))))))))))))))))))))) ?r5_fin
                  case r5_0 =>
                    intro wq hbw st  K hK
                    have KQ := KW.out.trans (hbw.mono KW.out.size)
                    simp only [Act.put, List.setIfInBounds_toArray, List.set_cons_zero, List.set_cons_succ] at hK ⊢
                    unfold opStep
                    rw [if_pos (by rfl)]
                    go_simp
                    exact hK.out _ _ (Below.refl _ _) rfl _ rfl
                  case r5_1 =>
                    intro wq hbw st  K hK
                    have KQ := KW.out.trans (hbw.mono KW.out.size)
                    simp only [Act.put, List.setIfInBounds_toArray, List.set_cons_zero, List.set_cons_succ] at hK ⊢
                    unfold opStep
                    rw [if_pos (by rfl)]
                    go_simp
                    exact hK.out _ _ (Below.refl _ _) rfl _ rfl
                  case r5_2 =>
                    intro wq hbw st  K hK
                    have KQ := KW.out.trans (hbw.mono KW.out.size)
                    simp only [Act.put, List.setIfInBounds_toArray, List.set_cons_zero, List.set_cons_succ] at hK ⊢
                    unfold opStep
                    rw [if_neg (by change ¬ (false = true); exact Bool.false_ne_true)]
                    exact hK.out _ _ (Below.refl _ _) rfl _ rfl
                  case r5_3 =>
                    intro wq hbw st  K hK
                    have KQ := KW.out.trans (hbw.mono KW.out.size)
                    simp only [Act.put, List.setIfInBounds_toArray, List.set_cons_zero, List.set_cons_succ] at hK ⊢
                    unfold opStep
                    rw [if_neg (by change ¬ (false = true); exact Bool.false_ne_true)]
                    exact hK.out _ _ (Below.refl _ _) rfl _ rfl
                  case r5_4 =>
                    intro wq hbw st  K hK
                    have KQ := KW.out.trans (hbw.mono KW.out.size)
                    simp only [Act.put, List.setIfInBounds_toArray, List.set_cons_zero, List.set_cons_succ] at hK ⊢
                    unfold opStep
                    rw [if_neg (by change ¬ (false = true); exact Bool.false_ne_true)]
                    exact hK.out _ _ (Below.refl _ _) rfl _ rfl
                  case r5_5 =>
                    intro wq hbw st  K hK
                    have KQ := KW.out.trans (hbw.mono KW.out.size)
                    simp only [Act.put, List.setIfInBounds_toArray, List.set_cons_zero, List.set_cons_succ] at hK ⊢
                    unfold opStep
                    rw [if_neg (by change ¬ (false = true); exact Bool.false_ne_true)]
                    exact hK.out _ _ (Below.refl _ _) rfl _ rfl
                  case r5_6 =>
                    intro wq hbw st  K hK
                    have KQ := KW.out.trans (hbw.mono KW.out.size)
                    simp only [Act.put, List.setIfInBounds_toArray, List.set_cons_zero, List.set_cons_succ] at hK ⊢
                    unfold opStep
                    rw [if_neg (by change ¬ (false = true); exact Bool.false_ne_true)]
                    exact hK.out _ _ (Below.refl _ _) rfl _ rfl
                  case r5_7 =>
                    intro wq hbw st  K hK
                    have KQ := KW.out.trans (hbw.mono KW.out.size)
                    simp only [Act.put, List.setIfInBounds_toArray, List.set_cons_zero, List.set_cons_succ] at hK ⊢
                    unfold opStep
                    rw [if_neg (by change ¬ (false = true); exact Bool.false_ne_true)]
                    exact hK.out _ _ (Below.refl _ _) rfl _ rfl
                  case r5_8 =>
                    intro wq hbw st  K hK
                    have KQ := KW.out.trans (hbw.mono KW.out.size)
                    simp only [Act.put, List.setIfInBounds_toArray, List.set_cons_zero, List.set_cons_succ] at hK ⊢
                    unfold opStep
                    rw [if_neg (by change ¬ (false = true); exact Bool.false_ne_true)]
                    exact hK.out _ _ (Below.refl _ _) rfl _ rfl
                  case r5_9 =>
                    intro wq hbw st  K hK
                    have KQ := KW.out.trans (hbw.mono KW.out.size)
                    simp only [Act.put, List.setIfInBounds_toArray, List.set_cons_zero, List.set_cons_succ] at hK ⊢
                    unfold opStep
                    rw [if_neg (by change ¬ (false = true); exact Bool.false_ne_true)]
                    exact hK.out _ _ (Below.refl _ _) rfl _ rfl
                  case r5_10 =>
                    intro wq hbw st  K hK
                    have KQ := KW.out.trans (hbw.mono KW.out.size)
                    simp only [Act.put, List.setIfInBounds_toArray, List.set_cons_zero, List.set_cons_succ] at hK ⊢
                    unfold opStep
                    rw [if_neg (by change ¬ (false = true); exact Bool.false_ne_true)]
                    exact hK.out _ _ (Below.refl _ _) rfl _ rfl
                  case r5_11 =>
                    intro wq hbw st  K hK
                    have KQ := KW.out.trans (hbw.mono KW.out.size)
                    simp only [Act.put, List.setIfInBounds_toArray, List.set_cons_zero, List.set_cons_succ] at hK ⊢
                    unfold opStep
                    rw [if_neg (by change ¬ (false = true); exact Bool.false_ne_true)]
                    exact hK.out _ _ (Below.refl _ _) rfl _ rfl
                  case r5_12 =>
                    intro wq hbw st  K hK
                    have KQ := KW.out.trans (hbw.mono KW.out.size)
                    simp only [Act.put, List.setIfInBounds_toArray, List.set_cons_zero, List.set_cons_succ] at hK ⊢
                    unfold opStep
                    rw [if_neg (by change ¬ (false = true); exact Bool.false_ne_true)]
                    exact hK.out _ _ (Below.refl _ _) rfl _ rfl
                  case r5_13 =>
                    intro wq hbw st  K hK
                    have KQ := KW.out.trans (hbw.mono KW.out.size)
                    simp only [Act.put, List.setIfInBounds_toArray, List.set_cons_zero, List.set_cons_succ] at hK ⊢
                    unfold opStep
                    rw [if_neg (by change ¬ (false = true); exact Bool.false_ne_true)]
                    exact hK.out _ _ (Below.refl _ _) rfl _ rfl
                  case r5_14 =>
                    intro wq hbw st  K hK
                    have KQ := KW.out.trans (hbw.mono KW.out.size)
                    simp only [Act.put, List.setIfInBounds_toArray, List.set_cons_zero, List.set_cons_succ] at hK ⊢
                    unfold opStep
                    rw [if_neg (by change ¬ (false = true); exact Bool.false_ne_true)]
                    exact hK.out _ _ (Below.refl _ _) rfl _ rfl
                  case r5_15 =>
                    intro wq hbw st  K hK
                    have KQ := KW.out.trans (hbw.mono KW.out.size)
                    simp only [Act.put, List.setIfInBounds_toArray, List.set_cons_zero, List.set_cons_succ] at hK ⊢
                    unfold opStep
                    rw [if_neg (by change ¬ (false = true); exact Bool.false_ne_true)]
                    exact hK.out _ _ (Below.refl _ _) rfl _ rfl
                  case r5_16 =>
                    intro wq hbw st  K hK
                    have KQ := KW.out.trans (hbw.mono KW.out.size)
                    simp only [Act.put, List.setIfInBounds_toArray, List.set_cons_zero, List.set_cons_succ] at hK ⊢
                    unfold opStep
                    rw [if_neg (by change ¬ (false = true); exact Bool.false_ne_true)]
                    exact hK.out _ _ (Below.refl _ _) rfl _ rfl
                  case r5_17 =>
                    intro wq hbw st  K hK
                    have KQ := KW.out.trans (hbw.mono KW.out.size)
                    simp only [Act.put, List.setIfInBounds_toArray, List.set_cons_zero, List.set_cons_succ] at hK ⊢
                    unfold opStep
                    rw [if_neg (by change ¬ (false = true); exact Bool.false_ne_true)]
                    exact hK.out _ _ (Below.refl _ _) rfl _ rfl
                  case r5_18 =>
                    intro wq hbw st  K hK
                    have KQ := KW.out.trans (hbw.mono KW.out.size)
                    simp only [Act.put, List.setIfInBounds_toArray, List.set_cons_zero, List.set_cons_succ] at hK ⊢
                    unfold opStep
                    rw [if_neg (by change ¬ (false = true); exact Bool.false_ne_true)]
                    exact hK.out _ _ (Below.refl _ _) rfl _ rfl
                  case r5_19 =>
                    intro wq hbw st  K hK
                    have KQ := KW.out.trans (hbw.mono KW.out.size)
                    simp only [Act.put, List.setIfInBounds_toArray, List.set_cons_zero, List.set_cons_succ] at hK ⊢
                    unfold opStep
                    rw [if_neg (by change ¬ (false = true); exact Bool.false_ne_true)]
                    exact hK.out _ _ (Below.refl _ _) rfl _ rfl
                  case r5_20 =>
                    intro wq hbw st  K hK
                    have KQ := KW.out.trans (hbw.mono KW.out.size)
                    simp only [Act.put, List.setIfInBounds_toArray, List.set_cons_zero, List.set_cons_succ] at hK ⊢
                    unfold opStep
                    rw [if_neg (by change ¬ (false = true); exact Bool.false_ne_true)]
                    exact hK.out _ _ (Below.refl _ _) rfl _ rfl
                  case r5_21 =>
                    intro wq hbw st  K hK
                    have KQ := KW.out.trans (hbw.mono KW.out.size)
                    simp only [Act.put, List.setIfInBounds_toArray, List.set_cons_zero, List.set_cons_succ] at hK ⊢
                    unfold opStep
                    rw [if_neg (by change ¬ (false = true); exact Bool.false_ne_true)]
                    exact hK.out _ _ (Below.refl _ _) rfl _ rfl
                  case r5_22 =>
                    intro wq hbw st  K hK
                    have KQ := KW.out.trans (hbw.mono KW.out.size)
                    simp only [Act.put, List.setIfInBounds_toArray, List.set_cons_zero, List.set_cons_succ] at hK ⊢
                    unfold opStep
                    rw [if_neg (by change ¬ (false = true); exact Bool.false_ne_true)]
                    exact hK.out _ _ (Below.refl _ _) rfl _ rfl
                  case r5_23 =>
                    intro wq hbw st  K hK
                    have KQ := KW.out.trans (hbw.mono KW.out.size)
                    simp only [Act.put, List.setIfInBounds_toArray, List.set_cons_zero, List.set_cons_succ] at hK ⊢
                    unfold opStep
                    rw [if_neg (by change ¬ (false = true); exact Bool.false_ne_true)]
                    exact hK.out _ _ (Below.refl _ _) rfl _ rfl
                  case r5_24 =>
                    intro wq hbw st  K hK
                    have KQ := KW.out.trans (hbw.mono KW.out.size)
                    simp only [Act.put, List.setIfInBounds_toArray, List.set_cons_zero, List.set_cons_succ] at hK ⊢
                    unfold opStep
                    rw [if_neg (by change ¬ (false = true); exact Bool.false_ne_true)]
                    exact hK.out _ _ (Below.refl _ _) rfl _ rfl
                  case r5_25 =>
                    intro wq hbw st  K hK
                    have KQ := KW.out.trans (hbw.mono KW.out.size)
                    simp only [Act.put, List.setIfInBounds_toArray, List.set_cons_zero, List.set_cons_succ] at hK ⊢
                    unfold opStep
                    rw [if_neg (by change ¬ (false = true); exact Bool.false_ne_true)]
                    exact hK.out _ _ (Below.refl _ _) rfl _ rfl
                  case r5_26 =>
                    intro wq hbw st  K hK
                    have KQ := KW.out.trans (hbw.mono KW.out.size)
                    simp only [Act.put, List.setIfInBounds_toArray, List.set_cons_zero, List.set_cons_succ] at hK ⊢
                    unfold opStep
                    rw [if_neg (by change ¬ (false = true); exact Bool.false_ne_true)]
                    exact hK.out _ _ (Below.refl _ _) rfl _ rfl
                  case r5_27 =>
                    intro wq hbw st  K hK
                    have KQ := KW.out.trans (hbw.mono KW.out.size)
                    simp only [Act.put, List.setIfInBounds_toArray, List.set_cons_zero, List.set_cons_succ] at hK ⊢
                    unfold opStep
                    rw [if_pos (by rfl)]
                    go_simp
                    exact hK.out _ _ (Below.refl _ _) rfl _ rfl
                  case r5_28 =>
                    intro wq hbw st  K hK
                    have KQ := KW.out.trans (hbw.mono KW.out.size)
                    simp only [Act.put, List.setIfInBounds_toArray, List.set_cons_zero, List.set_cons_succ] at hK ⊢
                    unfold opStep
                    rw [if_pos (by rfl)]
                    go_simp
                    exact hK.out _ _ (Below.refl _ _) rfl _ rfl
                  case r5_fin =>
                    intro wq hbw
                    try simp only [FinAll]
                    simp only [Act.put, List.setIfInBounds_toArray, List.set_cons_zero, List.set_cons_succ]
                    replace KW := Lib.hid (KW.out.trans (hbw.mono KW.out.size))
                    clear hbw
                    go_wp2
                    go_roundg (h.length - (q + 1))
                    case measure => have := HM2.out; omega
                    case rel => exact ⟨q + 1, by omega, by go_num, vint (by rw [HRN.out (by rw [HPE.out.1]; exact P1.out), HRS.out.1]; omega), by rw [HVL.out], KW.out⟩
                | true =>
                  by_cases hkq : k = q
                  · have ekq : ((k : Int) == (q : Int)) = true := beq_t (by omega)
                    have HVL : Hid (sqB h k (q + 1) = true) := Lib.hid (by rw [HST.out, decide_eq_true hkq]; rfl)
                    clear hkq
                    go_wp2_with fail
                    refine region_left [.is (.bool true), .is (.bool true), .is (.int .i64 k), .is (.int .i64 q), .is (.bool true), .is (.bool true), .is undef, .is undef, .is undef, .is undef, .is undef, .is undef, .is undef, .is undef, .is undef, .is (.bool true), .is (.bool true), .is undef, .is undef, .is undef, .is undef, .is undef, .is undef, .is undef, .is undef, .is undef, .is (.bool true), .is (.bool true), .is (.bool true)] (by kernel_rfl) rfl (by kernel_rfl) (by kernel_rfl) (.cons ?r6_0 (.cons ?r6_1 (.cons ?r6_2 (.cons ?r6_3 (.cons ?r6_4 (.cons ?r6_5 (.cons ?r6_6 (.cons ?r6_7 (.cons ?r6_8 (.cons ?r6_9 (.cons ?r6_10 (.cons ?r6_11 (.cons ?r6_12 (.cons ?r6_13 (.cons ?r6_14 (.cons ?r6_15 (.cons ?r6_16 (.cons ?r6_17 (.cons ?r6_18 (.cons ?r6_19 (.cons ?r6_20 (.cons ?r6_21 (.cons ?r6_22 (.cons ?r6_23 (.cons ?r6_24 (.cons ?r6_25 (.cons ?r6_26 (.cons ?r6_27 (.cons ?r6_28 .nil))))))))))))))))))))))))))))) ?r6_fin
                    case r6_0 =>
                      intro wq hbw st  K hK
                      have KQ := KW.out.trans (hbw.mono KW.out.size)
                      simp only [Act.put, List.setIfInBounds_toArray, List.set_cons_zero, List.set_cons_succ] at hK ⊢
                      unfold opStep
                      rw [if_pos (by rfl)]
                      go_simp
                      exact hK.out _ _ (Below.refl _ _) rfl _ rfl
                    case r6_1 =>
                      intro wq hbw st  K hK
                      have KQ := KW.out.trans (hbw.mono KW.out.size)
                      simp only [Act.put, List.setIfInBounds_toArray, List.set_cons_zero, List.set_cons_succ] at hK ⊢
                      unfold opStep
                      rw [if_pos (by rfl)]
                      go_simp
                      exact hK.out _ _ (Below.refl _ _) rfl _ rfl
                    case r6_2 =>
                      intro wq hbw st  K hK
                      have KQ := KW.out.trans (hbw.mono KW.out.size)
                      simp only [Act.put, List.setIfInBounds_toArray, List.set_cons_zero, List.set_cons_succ] at hK ⊢
                      unfold opStep
                      rw [if_pos (by rfl)]
                      go_simp
                      exact hK.out _ _ (Below.refl _ _) rfl _ rfl
                    case r6_3 =>
                      intro wq hbw st  K hK
                      have KQ := KW.out.trans (hbw.mono KW.out.size)
                      simp only [Act.put, List.setIfInBounds_toArray, List.set_cons_zero, List.set_cons_succ] at hK ⊢
                      unfold opStep
                      rw [if_pos (by rfl)]
                      go_simp
                      exact hK.out _ _ (Below.refl _ _) rfl _ rfl
                    case r6_4 =>
                      intro wq hbw st  K hK
                      have KQ := KW.out.trans (hbw.mono KW.out.size)
                      simp only [Act.put, List.setIfInBounds_toArray, List.set_cons_zero, List.set_cons_succ] at hK ⊢
                      unfold opStep
                      rw [if_pos (by rfl)]
                      go_simp
                      exact hK.out _ _ (Below.refl _ _) rfl _ rfl
                    case r6_5 =>
                      intro wq hbw st  K hK
                      have KQ := KW.out.trans (hbw.mono KW.out.size)
                      simp only [Act.put, List.setIfInBounds_toArray, List.set_cons_zero, List.set_cons_succ] at hK ⊢
                      unfold opStep
                      rw [if_pos (by rfl)]
                      go_simp
                      exact hK.out _ _ (Below.refl _ _) rfl _ rfl
                    case r6_6 =>
                      intro wq hbw st  K hK
                      have KQ := KW.out.trans (hbw.mono KW.out.size)
                      simp only [Act.put, List.setIfInBounds_toArray, List.set_cons_zero, List.set_cons_succ] at hK ⊢
                      unfold opStep
                      rw [if_neg (by change ¬ (false = true); exact Bool.false_ne_true)]
                      exact hK.out _ _ (Below.refl _ _) rfl _ rfl
                    case r6_7 =>
                      intro wq hbw st  K hK
                      have KQ := KW.out.trans (hbw.mono KW.out.size)
                      simp only [Act.put, List.setIfInBounds_toArray, List.set_cons_zero, List.set_cons_succ] at hK ⊢
                      unfold opStep
                      rw [if_neg (by change ¬ (false = true); exact Bool.false_ne_true)]
                      exact hK.out _ _ (Below.refl _ _) rfl _ rfl
                    case r6_8 =>
                      intro wq hbw st  K hK
                      have KQ := KW.out.trans (hbw.mono KW.out.size)
                      simp only [Act.put, List.setIfInBounds_toArray, List.set_cons_zero, List.set_cons_succ] at hK ⊢
                      unfold opStep
                      rw [if_neg (by change ¬ (false = true); exact Bool.false_ne_true)]
                      exact hK.out _ _ (Below.refl _ _) rfl _ rfl
                    case r6_9 =>
                      intro wq hbw st  K hK
                      have KQ := KW.out.trans (hbw.mono KW.out.size)
                      simp only [Act.put, List.setIfInBounds_toArray, List.set_cons_zero, List.set_cons_succ] at hK ⊢
                      unfold opStep
                      rw [if_neg (by change ¬ (false = true); exact Bool.false_ne_true)]
                      exact hK.out _ _ (Below.refl _ _) rfl _ rfl
                    case r6_10 =>
                      intro wq hbw st  K hK
                      have KQ := KW.out.trans (hbw.mono KW.out.size)
                      simp only [Act.put, List.setIfInBounds_toArray, List.set_cons_zero, List.set_cons_succ] at hK ⊢
                      unfold opStep
                      rw [if_neg (by change ¬ (false = true); exact Bool.false_ne_true)]
                      exact hK.out _ _ (Below.refl _ _) rfl _ rfl
                    case r6_11 =>
                      intro wq hbw st  K hK
                      have KQ := KW.out.trans (hbw.mono KW.out.size)
                      simp only [Act.put, List.setIfInBounds_toArray, List.set_cons_zero, List.set_cons_succ] at hK ⊢
                      unfold opStep
                      rw [if_neg (by change ¬ (false = true); exact Bool.false_ne_true)]
                      exact hK.out _ _ (Below.refl _ _) rfl _ rfl
                    case r6_12 =>
                      intro wq hbw st  K hK
                      have KQ := KW.out.trans (hbw.mono KW.out.size)
                      simp only [Act.put, List.setIfInBounds_toArray, List.set_cons_zero, List.set_cons_succ] at hK ⊢
                      unfold opStep
                      rw [if_neg (by change ¬ (false = true); exact Bool.false_ne_true)]
                      exact hK.out _ _ (Below.refl _ _) rfl _ rfl
                    case r6_13 =>
                      intro wq hbw st  K hK
                      have KQ := KW.out.trans (hbw.mono KW.out.size)
                      simp only [Act.put, List.setIfInBounds_toArray, List.set_cons_zero, List.set_cons_succ] at hK ⊢
                      unfold opStep
                      rw [if_neg (by change ¬ (false = true); exact Bool.false_ne_true)]
                      exact hK.out _ _ (Below.refl _ _) rfl _ rfl
                    case r6_14 =>
                      intro wq hbw st  K hK
                      have KQ := KW.out.trans (hbw.mono KW.out.size)
                      simp only [Act.put, List.setIfInBounds_toArray, List.set_cons_zero, List.set_cons_succ] at hK ⊢
                      unfold opStep
                      rw [if_neg (by change ¬ (false = true); exact Bool.false_ne_true)]
                      exact hK.out _ _ (Below.refl _ _) rfl _ rfl
                    case r6_15 =>
                      intro wq hbw st  K hK
                      have KQ := KW.out.trans (hbw.mono KW.out.size)
                      simp only [Act.put, List.setIfInBounds_toArray, List.set_cons_zero, List.set_cons_succ] at hK ⊢
                      unfold opStep
                      rw [if_pos (by rfl)]
                      go_simp
                      exact hK.out _ _ (Below.refl _ _) rfl _ rfl
                    case r6_16 =>
                      intro wq hbw st  K hK
                      have KQ := KW.out.trans (hbw.mono KW.out.size)
                      simp only [Act.put, List.setIfInBounds_toArray, List.set_cons_zero, List.set_cons_succ] at hK ⊢
                      unfold opStep
                      rw [if_pos (by rfl)]
                      go_simp
                      exact hK.out _ _ (Below.refl _ _) rfl _ rfl
                    case r6_17 =>
                      intro wq hbw st  K hK
                      have KQ := KW.out.trans (hbw.mono KW.out.size)
                      simp only [Act.put, List.setIfInBounds_toArray, List.set_cons_zero, List.set_cons_succ] at hK ⊢
                      unfold opStep
                      rw [if_neg (by change ¬ (false = true); exact Bool.false_ne_true)]
                      exact hK.out _ _ (Below.refl _ _) rfl _ rfl
                    case r6_18 =>
                      intro wq hbw st  K hK
                      have KQ := KW.out.trans (hbw.mono KW.out.size)
                      simp only [Act.put, List.setIfInBounds_toArray, List.set_cons_zero, List.set_cons_succ] at hK ⊢
                      unfold opStep
                      rw [if_neg (by change ¬ (false = true); exact Bool.false_ne_true)]
                      exact hK.out _ _ (Below.refl _ _) rfl _ rfl
                    case r6_19 =>
                      intro wq hbw st  K hK
                      have KQ := KW.out.trans (hbw.mono KW.out.size)
                      simp only [Act.put, List.setIfInBounds_toArray, List.set_cons_zero, List.set_cons_succ] at hK ⊢
                      unfold opStep
                      rw [if_neg (by change ¬ (false = true); exact Bool.false_ne_true)]
                      exact hK.out _ _ (Below.refl _ _) rfl _ rfl
                    case r6_20 =>
                      intro wq hbw st  K hK
                      have KQ := KW.out.trans (hbw.mono KW.out.size)
                      simp only [Act.put, List.setIfInBounds_toArray, List.set_cons_zero, List.set_cons_succ] at hK ⊢
                      unfold opStep
                      rw [if_neg (by change ¬ (false = true); exact Bool.false_ne_true)]
                      exact hK.out _ _ (Below.refl _ _) rfl _ rfl
                    case r6_21 =>
                      intro wq hbw st  K hK
                      have KQ := KW.out.trans (hbw.mono KW.out.size)
                      simp only [Act.put, List.setIfInBounds_toArray, List.set_cons_zero, List.set_cons_succ] at hK ⊢
                      unfold opStep
                      rw [if_neg (by change ¬ (false = true); exact Bool.false_ne_true)]
                      exact hK.out _ _ (Below.refl _ _) rfl _ rfl
                    case r6_22 =>
                      intro wq hbw st  K hK
                      have KQ := KW.out.trans (hbw.mono KW.out.size)
                      simp only [Act.put, List.setIfInBounds_toArray, List.set_cons_zero, List.set_cons_succ] at hK ⊢
                      unfold opStep
                      rw [if_neg (by change ¬ (false = true); exact Bool.false_ne_true)]
                      exact hK.out _ _ (Below.refl _ _) rfl _ rfl
                    case r6_23 =>
                      intro wq hbw st  K hK
                      have KQ := KW.out.trans (hbw.mono KW.out.size)
                      simp only [Act.put, List.setIfInBounds_toArray, List.set_cons_zero, List.set_cons_succ] at hK ⊢
                      unfold opStep
                      rw [if_neg (by change ¬ (false = true); exact Bool.false_ne_true)]
                      exact hK.out _ _ (Below.refl _ _) rfl _ rfl
                    case r6_24 =>
                      intro wq hbw st  K hK
                      have KQ := KW.out.trans (hbw.mono KW.out.size)
                      simp only [Act.put, List.setIfInBounds_toArray, List.set_cons_zero, List.set_cons_succ] at hK ⊢
                      unfold opStep
                      rw [if_neg (by change ¬ (false = true); exact Bool.false_ne_true)]
                      exact hK.out _ _ (Below.refl _ _) rfl _ rfl
                    case r6_25 =>
                      intro wq hbw st  K hK
                      have KQ := KW.out.trans (hbw.mono KW.out.size)
                      simp only [Act.put, List.setIfInBounds_toArray, List.set_cons_zero, List.set_cons_succ] at hK ⊢
                      unfold opStep
                      rw [if_neg (by change ¬ (false = true); exact Bool.false_ne_true)]
                      exact hK.out _ _ (Below.refl _ _) rfl _ rfl
                    case r6_26 =>
                      intro wq hbw st  K hK
                      have KQ := KW.out.trans (hbw.mono KW.out.size)
                      simp only [Act.put, List.setIfInBounds_toArray, List.set_cons_zero, List.set_cons_succ] at hK ⊢
                      unfold opStep
                      rw [if_pos (by rfl)]
                      go_simp
                      exact hK.out _ _ (Below.refl _ _) rfl _ rfl
                    case r6_27 =>
                      intro wq hbw st  K hK
                      have KQ := KW.out.trans (hbw.mono KW.out.size)
                      simp only [Act.put, List.setIfInBounds_toArray, List.set_cons_zero, List.set_cons_succ] at hK ⊢
                      unfold opStep
                      rw [if_pos (by rfl)]
                      go_simp
                      exact hK.out _ _ (Below.refl _ _) rfl _ rfl
                    case r6_28 =>
                      intro wq hbw st  K hK
                      have KQ := KW.out.trans (hbw.mono KW.out.size)
                      simp only [Act.put, List.setIfInBounds_toArray, List.set_cons_zero, List.set_cons_succ] at hK ⊢
                      unfold opStep
                      rw [if_pos (by rfl)]
                      go_simp
                      exact hK.out _ _ (Below.refl _ _) rfl _ rfl
                    case r6_fin =>
                      intro wq hbw
                      try simp only [FinAll]
                      simp only [Act.put, List.setIfInBounds_toArray, List.set_cons_zero, List.set_cons_succ]
                      replace KW := Lib.hid (KW.out.trans (hbw.mono KW.out.size))
                      clear hbw
                      go_wp2
                      go_roundg (h.length - (q + 1))
                      case measure => have := HM2.out; omega
                      case rel => exact ⟨q + 1, by omega, by go_num, vint (by rw [HRN.out (by rw [HPE.out.1]; exact P1.out), HRS.out.1]; omega), by rw [HVL.out], KW.out⟩
                  · have ekq : ((k : Int) == (q : Int)) = false := beq_f (by omega)
                    by_cases p2 : precB y x = true
                    · have P2 : Hid (precB y x = true) := Lib.hid p2
                      have HVL : Hid (sqB h k (q + 1) = true) := Lib.hid (by rw [HST.out, HPE.out.1, HPE.out.2, P1.out, P2.out, decide_eq_false hkq]; rfl)
                      clear hkq p2
                      go_wp2_with fail
                      refine region_left [.is (.bool true), .is (.bool true), .is (.int .i64 k), .is (.int .i64 q), .is (.bool false), .is (.bool false), .is (.slice (some ⟨b, off, none⟩) h.length cap), .is (.int .i64 k), .is (.pointer (some ⟨b, off + k * 6, none⟩)), .is (.agg #[.int .i64 (cliO x), .int .i64 (kindO x), .int .i64 (begO x), .int .i64 (endO x), .slice a4 (addO x).length c4, .slice a5 (seeO x).length c5]), .is (.slice (some ⟨b, off, none⟩) h.length cap), .is (.int .i64 q), .is (.pointer (some ⟨b, off + q * 6, none⟩)), .is (.agg #[.int .i64 (cliO y), .int .i64 (kindO y), .int .i64 (begO y), .int .i64 (endO y), .slice d4 (addO y).length k4, .slice d5 (seeO y).length k5]), .is (.bool false), .is (.bool false), .is (.bool false), .is (.slice (some ⟨b, off, none⟩) h.length cap), .is (.int .i64 q), .is (.pointer (some ⟨b, off + q * 6, none⟩)), .is (.agg #[.int .i64 (cliO y), .int .i64 (kindO y), .int .i64 (begO y), .int .i64 (endO y), .slice d4 (addO y).length k4, .slice d5 (seeO y).length k5]), .is (.slice (some ⟨b, off, none⟩) h.length cap), .is (.int .i64 k), .is (.pointer (some ⟨b, off + k * 6, none⟩)), .is (.agg #[.int .i64 (cliO x), .int .i64 (kindO x), .int .i64 (begO x), .int .i64 (endO x), .slice a4 (addO x).length c4, .slice a5 (seeO x).length c5]), .is (.bool true), .is (.bool true), .is (.bool true), .is (.bool true)] (by kernel_rfl) rfl (by kernel_rfl) (by kernel_rfl) (.cons ?r7_0 (.cons ?r7_1 (.cons ?r7_2 (.cons ?r7_3 (.cons ?r7_4 (.cons ?r7_5 (.cons ?r7_6 (.cons ?r7_7 (.cons ?r7_8 (.cons ?r7_9 (.cons ?r7_10 (.cons ?r7_11 (.cons ?r7_12 (.cons ?r7_13 (.cons ?r7_14 (.cons ?r7_15 (.cons ?r7_16 (.cons ?r7_17 (.cons ?r7_18 (.cons ?r7_19 (.cons ?r7_20 (.cons ?r7_21 (.cons ?r7_22 (.cons ?r7_23 (.cons ?r7_24 (.cons ?r7_25 (.cons ?r7_26 (.cons ?r7_27 (.cons ?r7_28 .nil))))))))))))))))))))))))))))) ?r7_fin
                      case r7_0 =>
                        intro wq hbw st  K hK
                        have KQ := KW.out.trans (hbw.mono KW.out.size)
                        simp only [Act.put, List.setIfInBounds_toArray, List.set_cons_zero, List.set_cons_succ] at hK ⊢
                        unfold opStep
                        rw [if_pos (by rfl)]
                        go_simp
                        exact hK.out _ _ (Below.refl _ _) rfl _ rfl
                      case r7_1 =>
                        intro wq hbw st  K hK
                        have KQ := KW.out.trans (hbw.mono KW.out.size)
                        simp only [Act.put, List.setIfInBounds_toArray, List.set_cons_zero, List.set_cons_succ] at hK ⊢
                        unfold opStep
                        rw [if_pos (by rfl)]
                        go_simp
                        exact hK.out _ _ (Below.refl _ _) rfl _ rfl
                      case r7_2 =>
                        intro wq hbw st  K hK
                        have KQ := KW.out.trans (hbw.mono KW.out.size)
                        simp only [Act.put, List.setIfInBounds_toArray, List.set_cons_zero, List.set_cons_succ] at hK ⊢
                        unfold opStep
                        rw [if_pos (by rfl)]
                        go_simp
                        exact hK.out _ _ (Below.refl _ _) rfl _ rfl
                      case r7_3 =>
                        intro wq hbw st  K hK
                        have KQ := KW.out.trans (hbw.mono KW.out.size)
                        simp only [Act.put, List.setIfInBounds_toArray, List.set_cons_zero, List.set_cons_succ] at hK ⊢
                        unfold opStep
                        rw [if_pos (by rfl)]
                        go_simp
                        exact hK.out _ _ (Below.refl _ _) rfl _ rfl
                      case r7_4 =>
                        intro wq hbw st  K hK
                        have KQ := KW.out.trans (hbw.mono KW.out.size)
                        simp only [Act.put, List.setIfInBounds_toArray, List.set_cons_zero, List.set_cons_succ] at hK ⊢
                        unfold opStep
                        rw [if_pos (by rfl)]
                        go_simp
                        exact hK.out _ _ (Below.refl _ _) rfl _ rfl
                      case r7_5 =>
                        intro wq hbw st  K hK
                        have KQ := KW.out.trans (hbw.mono KW.out.size)
                        simp only [Act.put, List.setIfInBounds_toArray, List.set_cons_zero, List.set_cons_succ] at hK ⊢
                        unfold opStep
                        rw [if_pos (by rfl)]
                        go_simp
                        exact hK.out _ _ (Below.refl _ _) rfl _ rfl
                      case r7_6 =>
                        intro wq hbw st  K hK
                        have KQ := KW.out.trans (hbw.mono KW.out.size)
                        simp only [Act.put, List.setIfInBounds_toArray, List.set_cons_zero, List.set_cons_succ] at hK ⊢
                        unfold opStep
                        rw [if_pos (by rfl)]
                        go_simp
                        exact hK.out _ _ (Below.refl _ _) rfl _ rfl
                      case r7_7 =>
                        intro wq hbw st  K hK
                        have KQ := KW.out.trans (hbw.mono KW.out.size)
                        simp only [Act.put, List.setIfInBounds_toArray, List.set_cons_zero, List.set_cons_succ] at hK ⊢
                        unfold opStep
                        rw [if_pos (by rfl)]
                        go_simp
                        exact hK.out _ _ (Below.refl _ _) rfl _ rfl
                      case r7_8 =>
                        intro wq hbw st  K hK
                        have KQ := KW.out.trans (hbw.mono KW.out.size)
                        simp only [Act.put, List.setIfInBounds_toArray, List.set_cons_zero, List.set_cons_succ] at hK ⊢
                        unfold opStep
                        rw [if_pos (by rfl)]
                        go_simp
                        exact hK.out _ _ (Below.refl _ _) rfl _ rfl
                      case r7_9 =>
                        intro wq hbw st  K hK
                        have KQ := KW.out.trans (hbw.mono KW.out.size)
                        simp only [Act.put, List.setIfInBounds_toArray, List.set_cons_zero, List.set_cons_succ] at hK ⊢
                        unfold opStep
                        rw [if_pos (by rfl)]
                        have dd := Lib.hid (HN.out.1 wq KQ)
                        have d0 := dd.out.1
                        have d1 := dd.out.2.1
                        have d2 := dd.out.2.2.1
                        have d3 := dd.out.2.2.2.1
                        have d4 := dd.out.2.2.2.2.1
                        have d5 := dd.out.2.2.2.2.2
                        go_simp
                        exact hK.out _ _ (Below.refl _ _) rfl _ rfl
                      case r7_10 =>
                        intro wq hbw st  K hK
                        have KQ := KW.out.trans (hbw.mono KW.out.size)
                        simp only [Act.put, List.setIfInBounds_toArray, List.set_cons_zero, List.set_cons_succ] at hK ⊢
                        unfold opStep
                        rw [if_pos (by rfl)]
                        go_simp
                        exact hK.out _ _ (Below.refl _ _) rfl _ rfl
                      case r7_11 =>
                        intro wq hbw st  K hK
                        have KQ := KW.out.trans (hbw.mono KW.out.size)
                        simp only [Act.put, List.setIfInBounds_toArray, List.set_cons_zero, List.set_cons_succ] at hK ⊢
                        unfold opStep
                        rw [if_pos (by rfl)]
                        go_simp
                        exact hK.out _ _ (Below.refl _ _) rfl _ rfl
                      case r7_12 =>
                        intro wq hbw st  K hK
                        have KQ := KW.out.trans (hbw.mono KW.out.size)
                        simp only [Act.put, List.setIfInBounds_toArray, List.set_cons_zero, List.set_cons_succ] at hK ⊢
                        unfold opStep
                        rw [if_pos (by rfl)]
                        go_simp
                        exact hK.out _ _ (Below.refl _ _) rfl _ rfl
                      case r7_13 =>
                        intro wq hbw st  K hK
                        have KQ := KW.out.trans (hbw.mono KW.out.size)
                        simp only [Act.put, List.setIfInBounds_toArray, List.set_cons_zero, List.set_cons_succ] at hK ⊢
                        unfold opStep
                        rw [if_pos (by rfl)]
                        have dd := Lib.hid (HN2.out.1 wq KQ)
                        have d0 := dd.out.1
                        have d1 := dd.out.2.1
                        have d2 := dd.out.2.2.1
                        have d3 := dd.out.2.2.2.1
                        have d4 := dd.out.2.2.2.2.1
                        have d5 := dd.out.2.2.2.2.2
                        go_simp
                        exact hK.out _ _ (Below.refl _ _) rfl _ rfl
                      case r7_14 =>
                        intro wq hbw st  K hK
                        have KQ := KW.out.trans (hbw.mono KW.out.size)
                        simp only [Act.put, List.setIfInBounds_toArray, List.set_cons_zero, List.set_cons_succ] at hK ⊢
                        unfold opStep
                        rw [if_pos (by rfl)]
                        go_simp
                        have hpc := rprec_any _ _ x y wq ⟨_, _, rfl, HN.out.2.1.keep KQ, HN.out.2.2.keep KQ⟩ ⟨_, _, rfl, HN2.out.2.1.keep KQ, HN2.out.2.2.keep KQ⟩
                        rw [P1.out] at hpc
                        refine hpc.mono ?_
                        rintro e wz ⟨rfl, hbz⟩
                        go_simp
                        exact hK.out _ _ hbz rfl _ rfl
                      case r7_15 =>
                        intro wq hbw st  K hK
                        have KQ := KW.out.trans (hbw.mono KW.out.size)
                        simp only [Act.put, List.setIfInBounds_toArray, List.set_cons_zero, List.set_cons_succ] at hK ⊢
                        unfold opStep
                        rw [if_pos (by rfl)]
                        go_simp
                        exact hK.out _ _ (Below.refl _ _) rfl _ rfl
                      case r7_16 =>
                        intro wq hbw st  K hK
                        have KQ := KW.out.trans (hbw.mono KW.out.size)
                        simp only [Act.put, List.setIfInBounds_toArray, List.set_cons_zero, List.set_cons_succ] at hK ⊢
                        unfold opStep
                        rw [if_pos (by rfl)]
                        go_simp
                        exact hK.out _ _ (Below.refl _ _) rfl _ rfl
                      case r7_17 =>
                        intro wq hbw st  K hK
                        have KQ := KW.out.trans (hbw.mono KW.out.size)
                        simp only [Act.put, List.setIfInBounds_toArray, List.set_cons_zero, List.set_cons_succ] at hK ⊢
                        unfold opStep
                        rw [if_pos (by rfl)]
                        go_simp
                        exact hK.out _ _ (Below.refl _ _) rfl _ rfl
                      case r7_18 =>
                        intro wq hbw st  K hK
                        have KQ := KW.out.trans (hbw.mono KW.out.size)
                        simp only [Act.put, List.setIfInBounds_toArray, List.set_cons_zero, List.set_cons_succ] at hK ⊢
                        unfold opStep
                        rw [if_pos (by rfl)]
                        go_simp
                        exact hK.out _ _ (Below.refl _ _) rfl _ rfl
                      case r7_19 =>
                        intro wq hbw st  K hK
                        have KQ := KW.out.trans (hbw.mono KW.out.size)
                        simp only [Act.put, List.setIfInBounds_toArray, List.set_cons_zero, List.set_cons_succ] at hK ⊢
                        unfold opStep
                        rw [if_pos (by rfl)]
                        go_simp
                        exact hK.out _ _ (Below.refl _ _) rfl _ rfl
                      case r7_20 =>
                        intro wq hbw st  K hK
                        have KQ := KW.out.trans (hbw.mono KW.out.size)
                        simp only [Act.put, List.setIfInBounds_toArray, List.set_cons_zero, List.set_cons_succ] at hK ⊢
                        unfold opStep
                        rw [if_pos (by rfl)]
                        have dd := Lib.hid (HN2.out.1 wq KQ)
                        have d0 := dd.out.1
                        have d1 := dd.out.2.1
                        have d2 := dd.out.2.2.1
                        have d3 := dd.out.2.2.2.1
                        have d4 := dd.out.2.2.2.2.1
                        have d5 := dd.out.2.2.2.2.2
                        go_simp
                        exact hK.out _ _ (Below.refl _ _) rfl _ rfl
                      case r7_21 =>
                        intro wq hbw st  K hK
                        have KQ := KW.out.trans (hbw.mono KW.out.size)
                        simp only [Act.put, List.setIfInBounds_toArray, List.set_cons_zero, List.set_cons_succ] at hK ⊢
                        unfold opStep
                        rw [if_pos (by rfl)]
                        go_simp
                        exact hK.out _ _ (Below.refl _ _) rfl _ rfl
                      case r7_22 =>
                        intro wq hbw st  K hK
                        have KQ := KW.out.trans (hbw.mono KW.out.size)
                        simp only [Act.put, List.setIfInBounds_toArray, List.set_cons_zero, List.set_cons_succ] at hK ⊢
                        unfold opStep
                        rw [if_pos (by rfl)]
                        go_simp
                        exact hK.out _ _ (Below.refl _ _) rfl _ rfl
                      case r7_23 =>
                        intro wq hbw st  K hK
                        have KQ := KW.out.trans (hbw.mono KW.out.size)
                        simp only [Act.put, List.setIfInBounds_toArray, List.set_cons_zero, List.set_cons_succ] at hK ⊢
                        unfold opStep
                        rw [if_pos (by rfl)]
                        go_simp
                        exact hK.out _ _ (Below.refl _ _) rfl _ rfl
                      case r7_24 =>
                        intro wq hbw st  K hK
                        have KQ := KW.out.trans (hbw.mono KW.out.size)
                        simp only [Act.put, List.setIfInBounds_toArray, List.set_cons_zero, List.set_cons_succ] at hK ⊢
                        unfold opStep
                        rw [if_pos (by rfl)]
                        have dd := Lib.hid (HN.out.1 wq KQ)
                        have d0 := dd.out.1
                        have d1 := dd.out.2.1
                        have d2 := dd.out.2.2.1
                        have d3 := dd.out.2.2.2.1
                        have d4 := dd.out.2.2.2.2.1
                        have d5 := dd.out.2.2.2.2.2
                        go_simp
                        exact hK.out _ _ (Below.refl _ _) rfl _ rfl
                      case r7_25 =>
                        intro wq hbw st  K hK
                        have KQ := KW.out.trans (hbw.mono KW.out.size)
                        simp only [Act.put, List.setIfInBounds_toArray, List.set_cons_zero, List.set_cons_succ] at hK ⊢
                        unfold opStep
                        rw [if_pos (by rfl)]
                        go_simp
                        have hpc := rprec_any _ _ y x wq ⟨_, _, rfl, HN2.out.2.1.keep KQ, HN2.out.2.2.keep KQ⟩ ⟨_, _, rfl, HN.out.2.1.keep KQ, HN.out.2.2.keep KQ⟩
                        rw [P2.out] at hpc
                        refine hpc.mono ?_
                        rintro e wz ⟨rfl, hbz⟩
                        go_simp
                        exact hK.out _ _ hbz rfl _ rfl
                      case r7_26 =>
                        intro wq hbw st  K hK
                        have KQ := KW.out.trans (hbw.mono KW.out.size)
                        simp only [Act.put, List.setIfInBounds_toArray, List.set_cons_zero, List.set_cons_succ] at hK ⊢
                        unfold opStep
                        rw [if_pos (by rfl)]
                        go_simp
                        exact hK.out _ _ (Below.refl _ _) rfl _ rfl
                      case r7_27 =>
                        intro wq hbw st  K hK
                        have KQ := KW.out.trans (hbw.mono KW.out.size)
                        simp only [Act.put, List.setIfInBounds_toArray, List.set_cons_zero, List.set_cons_succ] at hK ⊢
                        unfold opStep
                        rw [if_pos (by rfl)]
                        go_simp
                        exact hK.out _ _ (Below.refl _ _) rfl _ rfl
                      case r7_28 =>
                        intro wq hbw st  K hK
                        have KQ := KW.out.trans (hbw.mono KW.out.size)
                        simp only [Act.put, List.setIfInBounds_toArray, List.set_cons_zero, List.set_cons_succ] at hK ⊢
                        unfold opStep
                        rw [if_pos (by rfl)]
                        go_simp
                        exact hK.out _ _ (Below.refl _ _) rfl _ rfl
                      case r7_fin =>
                        intro wq hbw
                        try simp only [FinAll]
                        simp only [Act.put, List.setIfInBounds_toArray, List.set_cons_zero, List.set_cons_succ]
                        replace KW := Lib.hid (KW.out.trans (hbw.mono KW.out.size))
                        clear hbw
                        go_wp2
                        go_roundg (h.length - (q + 1))
                        case measure => have := HM2.out; omega
                        case rel => exact ⟨q + 1, by omega, by go_num, vint (by rw [HRN.out (by rw [HPE.out.1]; exact P1.out), HRS.out.1]; omega), by rw [HVL.out], KW.out⟩
                    · have P2 : Hid (precB y x = false) := Lib.hid (Bool.eq_false_iff.2 p2)
                      have HVL : Hid (sqB h k (q + 1) = false) := Lib.hid (by rw [HST.out, HPE.out.1, HPE.out.2, P1.out, P2.out, decide_eq_false hkq]; rfl)
                      clear hkq p2
                      go_wp2_with fail
                      refine region_left [.is (.bool true), .is (.bool true), .is (.int .i64 k), .is (.int .i64 q), .is (.bool false), .is (.bool false), .is (.slice (some ⟨b, off, none⟩) h.length cap), .is (.int .i64 k), .is (.pointer (some ⟨b, off + k * 6, none⟩)), .is (.agg #[.int .i64 (cliO x), .int .i64 (kindO x), .int .i64 (begO x), .int .i64 (endO x), .slice a4 (addO x).length c4, .slice a5 (seeO x).length c5]), .is (.slice (some ⟨b, off, none⟩) h.length cap), .is (.int .i64 q), .is (.pointer (some ⟨b, off + q * 6, none⟩)), .is (.agg #[.int .i64 (cliO y), .int .i64 (kindO y), .int .i64 (begO y), .int .i64 (endO y), .slice d4 (addO y).length k4, .slice d5 (seeO y).length k5]), .is (.bool false), .is (.bool false), .is (.bool false), .is (.slice (some ⟨b, off, none⟩) h.length cap), .is (.int .i64 q), .is (.pointer (some ⟨b, off + q * 6, none⟩)), .is (.agg #[.int .i64 (cliO y), .int .i64 (kindO y), .int .i64 (begO y), .int .i64 (endO y), .slice d4 (addO y).length k4, .slice d5 (seeO y).length k5]), .is (.slice (some ⟨b, off, none⟩) h.length cap), .is (.int .i64 k), .is (.pointer (some ⟨b, off + k * 6, none⟩)), .is (.agg #[.int .i64 (cliO x), .int .i64 (kindO x), .int .i64 (begO x), .int .i64 (endO x), .slice a4 (addO x).length c4, .slice a5 (seeO x).length c5]), .is (.bool false), .is (.bool false), .is (.bool false), .is (.bool false)] (by kernel_rfl) rfl (by kernel_rfl) (by kernel_rfl) (.cons ?r8_0 (.cons ?r8_1 (.cons ?r8_2 (.cons ?r8_3 (.cons ?r8_4 (.cons ?r8_5 (.cons ?r8_6 (.cons ?r8_7 (.cons ?r8_8 (.cons ?r8_9 (.cons ?r8_10 (.cons ?r8_11 (.cons ?r8_12 (.cons ?r8_13 (.cons ?r8_14 (.cons ?r8_15 (.cons ?r8_16 (.cons ?r8_17 (.cons ?r8_18 (.cons ?r8_19 (.cons ?r8_20 (.cons ?r8_21 (.cons ?r8_22 (.cons ?r8_23 (.cons ?r8_24 (.cons ?r8_25 (.cons ?r8_26 (.cons ?r8_27 (.cons ?r8_28 .nil))))))))))))))))))))))))))))) ?r8_fin
                      case r8_0 =>
                        intro wq hbw st  K hK
                        have KQ := KW.out.trans (hbw.mono KW.out.size)
                        simp only [Act.put, List.setIfInBounds_toArray, List.set_cons_zero, List.set_cons_succ] at hK ⊢
                        unfold opStep
                        rw [if_pos (by rfl)]
                        go_simp
                        exact hK.out _ _ (Below.refl _ _) rfl _ rfl
                      case r8_1 =>
                        intro wq hbw st  K hK
                        have KQ := KW.out.trans (hbw.mono KW.out.size)
                        simp only [Act.put, List.setIfInBounds_toArray, List.set_cons_zero, List.set_cons_succ] at hK ⊢
                        unfold opStep
                        rw [if_pos (by rfl)]
                        go_simp
                        exact hK.out _ _ (Below.refl _ _) rfl _ rfl
                      case r8_2 =>
                        intro wq hbw st  K hK
                        have KQ := KW.out.trans (hbw.mono KW.out.size)
                        simp only [Act.put, List.setIfInBounds_toArray, List.set_cons_zero, List.set_cons_succ] at hK ⊢
                        unfold opStep
                        rw [if_pos (by rfl)]
                        go_simp
                        exact hK.out _ _ (Below.refl _ _) rfl _ rfl
                      case r8_3 =>
                        intro wq hbw st  K hK
                        have KQ := KW.out.trans (hbw.mono KW.out.size)
                        simp only [Act.put, List.setIfInBounds_toArray, List.set_cons_zero, List.set_cons_succ] at hK ⊢
                        unfold opStep
                        rw [if_pos (by rfl)]
                        go_simp
                        exact hK.out _ _ (Below.refl _ _) rfl _ rfl
                      case r8_4 =>
                        intro wq hbw st  K hK
                        have KQ := KW.out.trans (hbw.mono KW.out.size)
                        simp only [Act.put, List.setIfInBounds_toArray, List.set_cons_zero, List.set_cons_succ] at hK ⊢
                        unfold opStep
                        rw [if_pos (by rfl)]
                        go_simp
                        exact hK.out _ _ (Below.refl _ _) rfl _ rfl
                      case r8_5 =>
                        intro wq hbw st  K hK
                        have KQ := KW.out.trans (hbw.mono KW.out.size)
                        simp only [Act.put, List.setIfInBounds_toArray, List.set_cons_zero, List.set_cons_succ] at hK ⊢
                        unfold opStep
                        rw [if_pos (by rfl)]
                        go_simp
                        exact hK.out _ _ (Below.refl _ _) rfl _ rfl
                      case r8_6 =>
                        intro wq hbw st  K hK
                        have KQ := KW.out.trans (hbw.mono KW.out.size)
                        simp only [Act.put, List.setIfInBounds_toArray, List.set_cons_zero, List.set_cons_succ] at hK ⊢
                        unfold opStep
                        rw [if_pos (by rfl)]
                        go_simp
                        exact hK.out _ _ (Below.refl _ _) rfl _ rfl
                      case r8_7 =>
                        intro wq hbw st  K hK
                        have KQ := KW.out.trans (hbw.mono KW.out.size)
                        simp only [Act.put, List.setIfInBounds_toArray, List.set_cons_zero, List.set_cons_succ] at hK ⊢
                        unfold opStep
                        rw [if_pos (by rfl)]
                        go_simp
                        exact hK.out _ _ (Below.refl _ _) rfl _ rfl
                      case r8_8 =>
                        intro wq hbw st  K hK
                        have KQ := KW.out.trans (hbw.mono KW.out.size)
                        simp only [Act.put, List.setIfInBounds_toArray, List.set_cons_zero, List.set_cons_succ] at hK ⊢
                        unfold opStep
                        rw [if_pos (by rfl)]
                        go_simp
                        exact hK.out _ _ (Below.refl _ _) rfl _ rfl
                      case r8_9 =>
                        intro wq hbw st  K hK
                        have KQ := KW.out.trans (hbw.mono KW.out.size)
                        simp only [Act.put, List.setIfInBounds_toArray, List.set_cons_zero, List.set_cons_succ] at hK ⊢
                        unfold opStep
                        rw [if_pos (by rfl)]
                        have dd := Lib.hid (HN.out.1 wq KQ)
                        have d0 := dd.out.1
                        have d1 := dd.out.2.1
                        have d2 := dd.out.2.2.1
                        have d3 := dd.out.2.2.2.1
                        have d4 := dd.out.2.2.2.2.1
                        have d5 := dd.out.2.2.2.2.2
                        go_simp
                        exact hK.out _ _ (Below.refl _ _) rfl _ rfl
                      case r8_10 =>
                        intro wq hbw st  K hK
                        have KQ := KW.out.trans (hbw.mono KW.out.size)
                        simp only [Act.put, List.setIfInBounds_toArray, List.set_cons_zero, List.set_cons_succ] at hK ⊢
                        unfold opStep
                        rw [if_pos (by rfl)]
                        go_simp
                        exact hK.out _ _ (Below.refl _ _) rfl _ rfl
                      case r8_11 =>
                        intro wq hbw st  K hK
                        have KQ := KW.out.trans (hbw.mono KW.out.size)
                        simp only [Act.put, List.setIfInBounds_toArray, List.set_cons_zero, List.set_cons_succ] at hK ⊢
                        unfold opStep
                        rw [if_pos (by rfl)]
                        go_simp
                        exact hK.out _ _ (Below.refl _ _) rfl _ rfl
                      case r8_12 =>
                        intro wq hbw st  K hK
                        have KQ := KW.out.trans (hbw.mono KW.out.size)
                        simp only [Act.put, List.setIfInBounds_toArray, List.set_cons_zero, List.set_cons_succ] at hK ⊢
                        unfold opStep
                        rw [if_pos (by rfl)]
                        go_simp
                        exact hK.out _ _ (Below.refl _ _) rfl _ rfl
                      case r8_13 =>
                        intro wq hbw st  K hK
                        have KQ := KW.out.trans (hbw.mono KW.out.size)
                        simp only [Act.put, List.setIfInBounds_toArray, List.set_cons_zero, List.set_cons_succ] at hK ⊢
                        unfold opStep
                        rw [if_pos (by rfl)]
                        have dd := Lib.hid (HN2.out.1 wq KQ)
                        have d0 := dd.out.1
                        have d1 := dd.out.2.1
                        have d2 := dd.out.2.2.1
                        have d3 := dd.out.2.2.2.1
                        have d4 := dd.out.2.2.2.2.1
                        have d5 := dd.out.2.2.2.2.2
                        go_simp
                        exact hK.out _ _ (Below.refl _ _) rfl _ rfl
                      case r8_14 =>
                        intro wq hbw st  K hK
                        have KQ := KW.out.trans (hbw.mono KW.out.size)
                        simp only [Act.put, List.setIfInBounds_toArray, List.set_cons_zero, List.set_cons_succ] at hK ⊢
                        unfold opStep
                        rw [if_pos (by rfl)]
                        go_simp
                        have hpc := rprec_any _ _ x y wq ⟨_, _, rfl, HN.out.2.1.keep KQ, HN.out.2.2.keep KQ⟩ ⟨_, _, rfl, HN2.out.2.1.keep KQ, HN2.out.2.2.keep KQ⟩
                        rw [P1.out] at hpc
                        refine hpc.mono ?_
                        rintro e wz ⟨rfl, hbz⟩
                        go_simp
                        exact hK.out _ _ hbz rfl _ rfl
                      case r8_15 =>
                        intro wq hbw st  K hK
                        have KQ := KW.out.trans (hbw.mono KW.out.size)
                        simp only [Act.put, List.setIfInBounds_toArray, List.set_cons_zero, List.set_cons_succ] at hK ⊢
                        unfold opStep
                        rw [if_pos (by rfl)]
                        go_simp
                        exact hK.out _ _ (Below.refl _ _) rfl _ rfl
                      case r8_16 =>
                        intro wq hbw st  K hK
                        have KQ := KW.out.trans (hbw.mono KW.out.size)
                        simp only [Act.put, List.setIfInBounds_toArray, List.set_cons_zero, List.set_cons_succ] at hK ⊢
                        unfold opStep
                        rw [if_pos (by rfl)]
                        go_simp
                        exact hK.out _ _ (Below.refl _ _) rfl _ rfl
                      case r8_17 =>
                        intro wq hbw st  K hK
                        have KQ := KW.out.trans (hbw.mono KW.out.size)
                        simp only [Act.put, List.setIfInBounds_toArray, List.set_cons_zero, List.set_cons_succ] at hK ⊢
                        unfold opStep
                        rw [if_pos (by rfl)]
                        go_simp
                        exact hK.out _ _ (Below.refl _ _) rfl _ rfl
                      case r8_18 =>
                        intro wq hbw st  K hK
                        have KQ := KW.out.trans (hbw.mono KW.out.size)
                        simp only [Act.put, List.setIfInBounds_toArray, List.set_cons_zero, List.set_cons_succ] at hK ⊢
                        unfold opStep
                        rw [if_pos (by rfl)]
                        go_simp
                        exact hK.out _ _ (Below.refl _ _) rfl _ rfl
                      case r8_19 =>
                        intro wq hbw st  K hK
                        have KQ := KW.out.trans (hbw.mono KW.out.size)
                        simp only [Act.put, List.setIfInBounds_toArray, List.set_cons_zero, List.set_cons_succ] at hK ⊢
                        unfold opStep
                        rw [if_pos (by rfl)]
                        go_simp
                        exact hK.out _ _ (Below.refl _ _) rfl _ rfl
                      case r8_20 =>
                        intro wq hbw st  K hK
                        have KQ := KW.out.trans (hbw.mono KW.out.size)
                        simp only [Act.put, List.setIfInBounds_toArray, List.set_cons_zero, List.set_cons_succ] at hK ⊢
                        unfold opStep
                        rw [if_pos (by rfl)]
                        have dd := Lib.hid (HN2.out.1 wq KQ)
                        have d0 := dd.out.1
                        have d1 := dd.out.2.1
                        have d2 := dd.out.2.2.1
                        have d3 := dd.out.2.2.2.1
                        have d4 := dd.out.2.2.2.2.1
                        have d5 := dd.out.2.2.2.2.2
                        go_simp
                        exact hK.out _ _ (Below.refl _ _) rfl _ rfl
                      case r8_21 =>
                        intro wq hbw st  K hK
                        have KQ := KW.out.trans (hbw.mono KW.out.size)
                        simp only [Act.put, List.setIfInBounds_toArray, List.set_cons_zero, List.set_cons_succ] at hK ⊢
                        unfold opStep
                        rw [if_pos (by rfl)]
                        go_simp
                        exact hK.out _ _ (Below.refl _ _) rfl _ rfl
                      case r8_22 =>
                        intro wq hbw st  K hK
                        have KQ := KW.out.trans (hbw.mono KW.out.size)
                        simp only [Act.put, List.setIfInBounds_toArray, List.set_cons_zero, List.set_cons_succ] at hK ⊢
                        unfold opStep
                        rw [if_pos (by rfl)]
                        go_simp
                        exact hK.out _ _ (Below.refl _ _) rfl _ rfl
                      case r8_23 =>
                        intro wq hbw st  K hK
                        have KQ := KW.out.trans (hbw.mono KW.out.size)
                        simp only [Act.put, List.setIfInBounds_toArray, List.set_cons_zero, List.set_cons_succ] at hK ⊢
                        unfold opStep
                        rw [if_pos (by rfl)]
                        go_simp
                        exact hK.out _ _ (Below.refl _ _) rfl _ rfl
                      case r8_24 =>
                        intro wq hbw st  K hK
                        have KQ := KW.out.trans (hbw.mono KW.out.size)
                        simp only [Act.put, List.setIfInBounds_toArray, List.set_cons_zero, List.set_cons_succ] at hK ⊢
                        unfold opStep
                        rw [if_pos (by rfl)]
                        have dd := Lib.hid (HN.out.1 wq KQ)
                        have d0 := dd.out.1
                        have d1 := dd.out.2.1
                        have d2 := dd.out.2.2.1
                        have d3 := dd.out.2.2.2.1
                        have d4 := dd.out.2.2.2.2.1
                        have d5 := dd.out.2.2.2.2.2
                        go_simp
                        exact hK.out _ _ (Below.refl _ _) rfl _ rfl
                      case r8_25 =>
                        intro wq hbw st  K hK
                        have KQ := KW.out.trans (hbw.mono KW.out.size)
                        simp only [Act.put, List.setIfInBounds_toArray, List.set_cons_zero, List.set_cons_succ] at hK ⊢
                        unfold opStep
                        rw [if_pos (by rfl)]
                        go_simp
                        have hpc := rprec_any _ _ y x wq ⟨_, _, rfl, HN2.out.2.1.keep KQ, HN2.out.2.2.keep KQ⟩ ⟨_, _, rfl, HN.out.2.1.keep KQ, HN.out.2.2.keep KQ⟩
                        rw [P2.out] at hpc
                        refine hpc.mono ?_
                        rintro e wz ⟨rfl, hbz⟩
                        go_simp
                        exact hK.out _ _ hbz rfl _ rfl
                      case r8_26 =>
                        intro wq hbw st  K hK
                        have KQ := KW.out.trans (hbw.mono KW.out.size)
                        simp only [Act.put, List.setIfInBounds_toArray, List.set_cons_zero, List.set_cons_succ] at hK ⊢
                        unfold opStep
                        rw [if_pos (by rfl)]
                        go_simp
                        exact hK.out _ _ (Below.refl _ _) rfl _ rfl
                      case r8_27 =>
                        intro wq hbw st  K hK
                        have KQ := KW.out.trans (hbw.mono KW.out.size)
                        simp only [Act.put, List.setIfInBounds_toArray, List.set_cons_zero, List.set_cons_succ] at hK ⊢
                        unfold opStep
                        rw [if_pos (by rfl)]
                        go_simp
                        exact hK.out _ _ (Below.refl _ _) rfl _ rfl
                      case r8_28 =>
                        intro wq hbw st  K hK
                        have KQ := KW.out.trans (hbw.mono KW.out.size)
                        simp only [Act.put, List.setIfInBounds_toArray, List.set_cons_zero, List.set_cons_succ] at hK ⊢
                        unfold opStep
                        rw [if_pos (by rfl)]
                        go_simp
                        exact hK.out _ _ (Below.refl _ _) rfl _ rfl
                      case r8_fin =>
                        intro wq hbw
                        try simp only [FinAll]
                        simp only [Act.put, List.setIfInBounds_toArray, List.set_cons_zero, List.set_cons_succ]
                        replace KW := Lib.hid (KW.out.trans (hbw.mono KW.out.size))
                        clear hbw
                        go_wp2
                        go_roundg (h.length - (q + 1))
                        case measure => have := HM2.out; omega
                        case rel => exact ⟨q + 1, by omega, by go_num, vint (by rw [HRN.out (by rw [HPE.out.1]; exact P1.out), HRS.out.1]; omega), by rw [HVL.out], KW.out⟩
          · have HRE : Hid (on + (rowL h k q).length = (ordL h (k + 1)).length) := Lib.hid (by rw [HOS.out, List.length_append, HON.out, show q = h.length by omega])
            have HSE := Lib.hid (HSB.out.2.2.1 (i := k) (k := q) (by omega))
            go_wp2
            go_roundg (h.length - (k + 1))
            case measure => have := HM.out; omega
            case rel => exact ⟨k + 1, by omega, by go_num, by rw [HRE.out], by rw [HSE.out], KW.out⟩
      · have HSE := Lib.hid (HSB.out.2.2.2 (i := k) (by omega))
        have HRE : Hid (ordL h k = ordL h h.length) := Lib.hid (by rw [show k = h.length by omega])
        rw [HSE.out, HRE.out]
        clear HAT HOA HSB HOS HLL
        replace K0 := Lib.hid (K0.out.trans (KW.out.mono K0.out.size))
        have HR0 := Lib.hid (HR.out.on KW.out)
        go_wp2_with fail
        refine (awake_any _).mono ?_
        rintro e w1 ⟨rfl, hb⟩
        replace HR0 := Lib.hid (HR0.out.on hb)
        replace K0 := Lib.hid (K0.out.trans (hb.mono K0.out.size))
        clear hb
        go_wp2_with fail
        refine (sequential_any _ h _ HR0.out HS.out.1).mono ?_
        rintro e w2 ⟨rfl, hb⟩
        replace HR0 := Lib.hid (HR0.out.on hb)
        replace K0 := Lib.hid (K0.out.trans (hb.mono K0.out.size))
        clear hb
        go_wp2
        go_ret
        exact ⟨by simp, K0.out⟩
  · rw [Bool.eq_false_iff.2 hs] at HSM
    clear hs
    go_wp2_with fail
    refine HSM.out.mono ?_
    rintro e w1 ⟨rfl, rfl⟩
    go_wp2_with fail
    refine (awake_any _).mono ?_
    rintro e w2 ⟨rfl, hb⟩
    have HB := Lib.hid hb
    clear hb
    go_wp2
    go_ret
    exact ⟨rfl, HB.out⟩

set_option maxRecDepth 100000 in
theorem lifted (os : Os) (started : os.Started) (H : Type) (enc : TypeId × Value → H) :
    ReturnsInHanded {} Try.checked os 7 .any (Rows.historyOrderSpec.pre6 enc Try.prog Try.f7 Rows.historyOrderRow.domain false) (Rows.historyOrderSpec.post enc Try.prog Try.f7 false true false false) := by
  refine returnsInHanded_of_change (C := Try.checked) own started (by kernel_rfl) Try.func7
    (ChangeSpec.witness6 (enc := enc) (C := Try.checked) false ⟨#[], #[.slice none 0 0], []⟩ 8 (by kernel_rfl) (by kernel_rfl) (by kernel_rfl) (by kernel_rfl)) ?_
  intro W base args ds gs before hval0 hW hcnd _
  have hval : ∀ (j : Nat) t v, Try.f7.params[j]? = some t → args[j]? = some v → Value.okWide Try.prog W .any base t v := hval0
  have hW' := hW
  obtain ⟨p, q, hA0, hV, rfl, hfz, hnd⟩ := hW
  have hA : DataW.TrodAll enc Try.prog W 0 (fun _ => true) true Try.f7.params.toList args.toList ds p := hA0
  rw [Try.params7] at hA hval
  obtain ⟨v0, vs0, d0, ds0, p0, q0, hargs, rfl, rfl, t0, r0⟩ := trodAll_cons hA
  obtain ⟨rfl, rfl, rfl⟩ := trodAll_nil r0
  obtain rfl : args = #[v0] := by cases args; simp_all
  obtain ⟨rfl, rfl⟩ := trodVars_none hV
  obtain ⟨x0, h0⟩ := open_ops (hval 0 22 v0 rfl rfl) t0
  refine (walk v0 x0 W h0).mono fun e W' ⟨he, hb⟩ => ?_
  subst he
  exact ⟨_, rfl, law_post laidOut rfl (fun _ _ => rfl) (by kernel_rfl) Try.underlying4 (by rw [Try.params7]; exact fun t ht => by simp at ht; rcases ht with  rfl ; all_goals exact ⟨by kernel_rfl, of_decide_eq_true (by kernel_rfl)⟩) hW' hb⟩

theorem over : Rows.historyOrderRow.holds Try.pinned (OpenSpec.ofChange Rows.historyOrderSpec) :=
  OpenClaim.holds_of_wide 7 Try.f7 rfl rfl rfl rfl rfl rfl rfl ⟨rfl, rfl, rfl, rfl, rfl⟩ rfl rfl rfl rfl rfl (by kernel_rfl) Try.func7 (by kernel_rfl)
    (of_decide_eq_true (by kernel_rfl)) (by unfold Func.isWrapper; first | (rw [if_pos (by decide +kernel)]; kernel_rfl) | (rw [if_neg (by decide +kernel)]; exact ⟨rfl, rfl⟩))
    (fun os started H enc _ => lifted os started H enc)

theorem proved : Rows.HistoryOrderSaid := over
end Go.Proofs.Ytnpfalloelmflaa.historyOrder
