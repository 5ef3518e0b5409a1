/-
  ScheduleEach: for all arguments the law returns true, and what came in reads behind the call as before. No condition.
-/
import Derived.Test.YtfdicndmebhmdaaOb
import Derived.Test.YtfdicndmebhmdaaNa
import Derived.Test.YtfdicndmebhmdaaHq
import Derived.Deep.DeepCutAuto
namespace Go.Proofs.Ytfdicndmebhmdaa.scheduleEach
open Go.ChangeShapes Go.WideShapes Go.ChangeAt Go.RowKit

theorem Prj.mem {x y : List Ev} (h : Prj x y) {e : Ev} (he : e ∈ y) : e ∈ x := by
  have h1 := h e e (depE_self e)
  have h2 : e ∈ prj y e e := by unfold prj; rw [List.mem_filter]; exact ⟨he, by simp⟩
  rw [← h1] at h2
  unfold prj at h2
  exact (List.mem_filter.1 h2).1
theorem ind_mem {y : List Ev} {k : Nat} (h : k < (indE y).length) : (indE y)[k] + 1 < y.length ∧ depI y (indE y)[k] ((indE y)[k] + 1) = false := by
  have h1 : (indE y)[k] ∈ indE y := List.getElem_mem h
  generalize (indE y)[k] = q at *
  unfold indE indK at h1
  rw [List.mem_filter, List.mem_range] at h1
  exact ⟨by omega, by simpa using h1.2⟩
def leftE (t : List Ev) : Left := .has (fun v w => ReadsE w v t) fun _ _ _ hb h => h.on hb
set_option maxRecDepth 100000 in
set_option maxHeartbeats 16000000 in
theorem walk (v : Value) (t : List Ev) (W : World) (hr : ReadsE W v t) : Calls Try.prog 7 #[v] W (BoolMade W true) := by
  have HR := Lib.hid hr
  obtain ⟨ao, cap, rfl, hl, hm, -, -⟩ := hr
  unfold maxLen at hm
  go_enter Try.func7, Try.ntmps7
  have KW := Lib.hid (Below.refl W.heap.size W)
  go_wp2_with fail
  refine (awake_any _).mono ?_
  rintro e w1 ⟨rfl, hb⟩
  replace HR := Lib.hid (HR.out.on hb)
  replace KW := Lib.hid (KW.out.trans (hb.mono KW.out.size))
  clear hb
  go_wp2_with fail
  refine (rsmall_any _ t 6 w1 HR.out).mono ?_
  rintro e ws ⟨rfl, rfl⟩
  cases hs : smB t 6 with
  | false =>
    go_wp2
    go_ret
    exact ⟨rfl, KW.out⟩
  | true =>
    have HSA := Lib.hid hs
    clear hs
    have HST := Lib.hid (SmallT.of HSA.out (by decide))
    have hn : t.length ≤ 6 := by have := (smB_of HSA.out).1; omega
    clear HSA
    go_wp2_with fail
    refine (all_any _ t 720 _ HR.out HST.out (by omega)).mono ?_
    rintro e w3 ⟨v3, F, B, rfl, hg, hb⟩
    rw [all_720 hn] at hg
    have HG := Lib.hid hg
    obtain ⟨a3, lc, rfl⟩ := RowsF.slc hg
    clear hg
    replace HR := Lib.hid (HR.out.on hb)
    replace KW := Lib.hid (KW.out.trans (hb.mono KW.out.size))
    clear hb
    have HCN : Hid (cntE t 720 = (((linsE t).length : Nat) : Int)) := Lib.hid (by rw [cnt_same, all_720 hn])
    have HLP := Lib.hid (linsE_pos t)
    have HL0 := Lib.hid (linsE_head t)
    have HEQ := Lib.hid (fun (y : List Ev) (h : y ∈ linsE t) => each_eq h)
    have HND := Lib.hid (fun (i k : Nat) (hi : i < (linsE t).length) (hk : k < (linsE t).length) (hne : i < k) (e : (linsE t)[i] = (linsE t)[k]) => (List.pairwise_iff_getElem.1 (linsE_nodup t)) i k hi hk hne e)
    have HSW := Lib.hid (fun (y : List Ev) (h : y ∈ linsE t) (k : Nat) (h1 : k + 1 < y.length) (h2 : depI y k (k + 1) = false) => each_swap h h1 h2)
    have HSM : Hid (∀ y, y ∈ linsE t → y.length = t.length ∧ SmallT y) := Lib.hid fun y hy => by
      have hp := mem_lins.1 hy
      exact ⟨hp.len.symm, by have := hp.len; have := HST.out.1; omega, fun e he => HST.out.2 e (Prj.mem hp he)⟩
    have hll := lins_720 hn
    generalize linsE t = LL at *
    obtain ⟨us3, hrr3, -⟩ := id HG.out
    obtain ⟨ga, rfl, -, -⟩ := row_at hrr3 HLP.out
    clear hrr3 us3
    have hne0 : ((LL.length : Int) != (LL.length : Int)) = false := by simp
    have hlp := HLP.out
    have hz0 : ((LL.length : Int) == 0) = false := beq_f (by omega)
    have hz1 : (0 : Int) < LL.length := by omega
    obtain ⟨xa, xc, hxcell, hxrd⟩ := RowsF.cell HG.out HLP.out
    rw [HL0.out HLP.out] at hxcell hxrd
    have HX := Lib.hid (And.intro hxcell hxrd)
    clear hxcell hxrd
    go_wp2_with fail
    refine region_left [.is (.slice (some ⟨ga, 0, none⟩) LL.length lc), .is (.int .i64 (LL.length : Int)), .is (.slice ao t.length cap), .is (.int .i64 (LL.length : Int)), .is (.bool false), .is (.bool false), .is (.slice (some ⟨ga, 0, none⟩) LL.length lc), .is (.int .i64 (LL.length : Int)), .is (.bool false), .is (.bool false), .is (.bool false), .is (.slice (some ⟨ga, 0, none⟩) LL.length lc), .is (.pointer (some ⟨ga, 0, none⟩)), .is (.slice xa (normE t).length xc), .is (.slice ao t.length cap), leftE (normE t), .is (.bool true), .is (.bool false), .is (.bool false)] (by kernel_rfl) rfl (by kernel_rfl) (by kernel_rfl) (.cons ?a0 (.cons ?a1 (.cons ?a2 (.cons ?a3 (.cons ?a4 (.cons ?a5 (.cons ?a6 (.cons ?a7 (.cons ?a8 (.cons ?a9 (.cons ?a10 (.cons ?a11 (.cons ?a12 (.cons ?a13 (.cons ?a14 (.cons ?a15 (.cons ?a16 (.cons ?a17 (.cons ?a18 .nil))))))))))))))))))) ?afin
    case a0 =>
      intro wq hbw st  K hK
      simp only [Act.put, List.setIfInBounds_toArray, List.set_cons_zero, List.set_cons_succ] at hK ⊢
      unfold opStep
      rw [if_pos (by rfl)]
      go_simp
      exact hK.out _ _ (Below.refl _ _) rfl _ rfl
    case a1 =>
      intro wq hbw st  K hK
      simp only [Act.put, List.setIfInBounds_toArray, List.set_cons_zero, List.set_cons_succ] at hK ⊢
      unfold opStep
      rw [if_pos (by rfl)]
      go_simp
      exact hK.out _ _ (Below.refl _ _) rfl _ rfl
    case a2 =>
      intro wq hbw st  K hK
      simp only [Act.put, List.setIfInBounds_toArray, List.set_cons_zero, List.set_cons_succ] at hK ⊢
      unfold opStep
      rw [if_pos (by rfl)]
      go_simp
      exact hK.out _ _ (Below.refl _ _) rfl _ rfl
    case a3 =>
      intro wq hbw st  K hK
      simp only [Act.put, List.setIfInBounds_toArray, List.set_cons_zero, List.set_cons_succ] at hK ⊢
      unfold opStep
      rw [if_pos (by rfl)]
      go_simp
      have hpc := count_any _ t 720 wq (HR.out.on hbw) (by omega) (by omega)
      rw [HCN.out] at hpc
      refine hpc.mono ?_
      rintro e wz ⟨rfl, hbz⟩
      go_simp
      exact hK.out _ _ hbz rfl _ rfl
    case a4 =>
      intro wq hbw st  K hK
      simp only [Act.put, List.setIfInBounds_toArray, List.set_cons_zero, List.set_cons_succ] at hK ⊢
      unfold opStep
      rw [if_pos (by rfl)]
      go_simp
      exact hK.out _ _ (Below.refl _ _) rfl _ rfl
    case a5 =>
      intro wq hbw st  K hK
      simp only [Act.put, List.setIfInBounds_toArray, List.set_cons_zero, List.set_cons_succ] at hK ⊢
      unfold opStep
      rw [if_pos (by rfl)]
      go_simp
      exact hK.out _ _ (Below.refl _ _) rfl _ rfl
    case a6 =>
      intro wq hbw st  K hK
      simp only [Act.put, List.setIfInBounds_toArray, List.set_cons_zero, List.set_cons_succ] at hK ⊢
      unfold opStep
      rw [if_pos (by rfl)]
      go_simp
      exact hK.out _ _ (Below.refl _ _) rfl _ rfl
    case a7 =>
      intro wq hbw st  K hK
      simp only [Act.put, List.setIfInBounds_toArray, List.set_cons_zero, List.set_cons_succ] at hK ⊢
      unfold opStep
      rw [if_pos (by rfl)]
      go_simp
      exact hK.out _ _ (Below.refl _ _) rfl _ rfl
    case a8 =>
      intro wq hbw st  K hK
      simp only [Act.put, List.setIfInBounds_toArray, List.set_cons_zero, List.set_cons_succ] at hK ⊢
      unfold opStep
      rw [if_pos (by rfl)]
      go_simp
      exact hK.out _ _ (Below.refl _ _) rfl _ rfl
    case a9 =>
      intro wq hbw st  K hK
      simp only [Act.put, List.setIfInBounds_toArray, List.set_cons_zero, List.set_cons_succ] at hK ⊢
      unfold opStep
      rw [if_pos (by rfl)]
      go_simp
      exact hK.out _ _ (Below.refl _ _) rfl _ rfl
    case a10 =>
      intro wq hbw st  K hK
      simp only [Act.put, List.setIfInBounds_toArray, List.set_cons_zero, List.set_cons_succ] at hK ⊢
      unfold opStep
      rw [if_pos (by rfl)]
      go_simp
      exact hK.out _ _ (Below.refl _ _) rfl _ rfl
    case a11 =>
      intro wq hbw st  K hK
      simp only [Act.put, List.setIfInBounds_toArray, List.set_cons_zero, List.set_cons_succ] at hK ⊢
      unfold opStep
      rw [if_pos (by rfl)]
      go_simp
      exact hK.out _ _ (Below.refl _ _) rfl _ rfl
    case a12 =>
      intro wq hbw st  K hK
      simp only [Act.put, List.setIfInBounds_toArray, List.set_cons_zero, List.set_cons_succ] at hK ⊢
      unfold opStep
      rw [if_pos (by rfl)]
      go_simp
      exact hK.out _ _ (Below.refl _ _) rfl _ rfl
    case a13 =>
      intro wq hbw st  K hK
      simp only [Act.put, List.setIfInBounds_toArray, List.set_cons_zero, List.set_cons_succ] at hK ⊢
      unfold opStep
      rw [if_pos (by rfl)]
      have d0 := HX.out.1 wq hbw
      go_simp
      exact hK.out _ _ (Below.refl _ _) rfl _ rfl
    case a14 =>
      intro wq hbw st  K hK
      simp only [Act.put, List.setIfInBounds_toArray, List.set_cons_zero, List.set_cons_succ] at hK ⊢
      unfold opStep
      rw [if_pos (by rfl)]
      go_simp
      exact hK.out _ _ (Below.refl _ _) rfl _ rfl
    case a15 =>
      intro wq hbw st  K hK
      simp only [Act.put, List.setIfInBounds_toArray, List.set_cons_zero, List.set_cons_succ] at hK ⊢
      unfold opStep
      rw [if_pos (by rfl)]
      go_simp
      refine (normal_any _ t wq (HR.out.on hbw) HST.out).mono ?_
      rintro e wz ⟨vz, rfl, hz⟩
      have hbz := hz.1.2.2
      have hrz := NormMade.reads hz
      go_simp
      exact hK.out _ _ hbz hrz _ rfl
    case a16 =>
      intro wq hbw st x15 h15 K hK
      simp only [Act.put, List.setIfInBounds_toArray, List.set_cons_zero, List.set_cons_succ] at hK ⊢
      unfold opStep
      rw [if_pos (by rfl)]
      go_simp
      have hpc := rstr_any _ _ (normE t) (normE t) wq (HX.out.2.on hbw) h15
      rw [decide_eq_true rfl] at hpc
      refine hpc.mono ?_
      rintro e wz ⟨rfl, hbz⟩
      go_simp
      exact hK.out _ _ hbz rfl _ rfl
    case a17 =>
      intro wq hbw st  K hK
      simp only [Act.put, List.setIfInBounds_toArray, List.set_cons_zero, List.set_cons_succ] at hK ⊢
      unfold opStep
      rw [if_pos (by rfl)]
      go_simp
      exact hK.out _ _ (Below.refl _ _) rfl _ rfl
    case a18 =>
      intro wq hbw st  K hK
      simp only [Act.put, List.setIfInBounds_toArray, List.set_cons_zero, List.set_cons_succ] at hK ⊢
      unfold opStep
      rw [if_pos (by rfl)]
      go_simp
      exact hK.out _ _ (Below.refl _ _) rfl _ rfl
    case afin =>
      intro wq hbw
      intro x15 h15
      try simp only [FinAll]
      simp only [Act.put, List.setIfInBounds_toArray, List.set_cons_zero, List.set_cons_succ]
      have K4 := Lib.hid hbw
      clear hbw hne0 hz0 hz1 HX h15 hlp
      go_wp2
      go_loopg [4, 5, 6, 7, 8, 9] LL.length (fun m ix _ _ _ _ _ wr => ∃ i : Nat, m + i = LL.length ∧ ix = .int .i64 i ∧ Below w3.heap.size w3 wr)
      case atStart => exact ⟨0, by omega, rfl, K4.out⟩
      case round =>
        rename World => w4
        obtain ⟨i, hmi, rfl, hb4⟩ := hrel
        have HM := Lib.hid hmi
        have K4' := Lib.hid hb4
        clear K4
        have hi : i ≤ LL.length := by omega
        have hi0 : (0 : Int) ≤ (i : Int) := by omega
        clear hmi hb4
        by_cases hil : i < LL.length
        · have hii : (i : Int) < LL.length := by omega
          have HIL := Lib.hid (And.intro hil trivial)
          obtain ⟨ua, uc, hucell, hurd⟩ := RowsF.cell HG.out hil
          have HYM := Lib.hid (HSM.out _ (List.getElem_mem hil))
          have HYE := Lib.hid (HEQ.out _ (List.getElem_mem hil))
          have HYS := Lib.hid (HSW.out _ (List.getElem_mem hil))
          have HYD := Lib.hid (fun (q : Nat) (hq : q < LL.length) (hqi : q < i) => HND.out q i hq hil hqi)
          have HU := Lib.hid (And.intro hucell hurd)
          have hyn : (LL[i]).length ≤ 6 := by have := (HSM.out _ (List.getElem_mem hil)).1; omega
          generalize hyy : LL[i] = y at *
          clear hyy hucell hurd hil
          have HC4 := Lib.hid (fun wq (hq : Below w4.heap.size w4 wq) => HU.out.1 wq (K4'.out.trans (hq.mono K4'.out.size)))
          have HE4 := Lib.hid (fun wq (hq : Below w4.heap.size w4 wq) => HU.out.2.on (K4'.out.trans (hq.mono K4'.out.size)))
          have HT4 := Lib.hid (fun wq (hq : Below w4.heap.size w4 wq) => HR.out.on (K4'.out.trans (hq.mono K4'.out.size)))
          have HDY : Hid (decide (normE y = normE t) = true) := Lib.hid (decide_eq_true HYE.out)
          by_cases hi1 : i = 0
          · subst hi1
            have hi2 : ¬ (0 : Int) < ((0 : Nat) : Int) := by omega
            go_wp2_with fail
            refine region_left [.is (.slice (some ⟨ga, 0, none⟩) LL.length lc), .is (.int .i64 ((0 : Nat) : Int)), .is (.pointer (some ⟨ga, 0, none⟩)), .is (.slice ua y.length uc), .is (.slice ao t.length cap), .is (.bool true), .is (.bool false), .is (.bool false), .is (.int .i64 ((0 : Nat) : Int)), .is (.bool false), .is (.bool false), .is undef, .is undef, .is undef, .is undef, .is undef, .is undef, .is undef, .is undef, .is undef, .is undef, .is (.bool false), .is (.bool false)] (by kernel_rfl) rfl (by kernel_rfl) (by kernel_rfl) (.cons ?c0 (.cons ?c1 (.cons ?c2 (.cons ?c3 (.cons ?c4 (.cons ?c5 (.cons ?c6 (.cons ?c7 (.cons ?c8 (.cons ?c9 (.cons ?c10 (.cons ?c11 (.cons ?c12 (.cons ?c13 (.cons ?c14 (.cons ?c15 (.cons ?c16 (.cons ?c17 (.cons ?c18 (.cons ?c19 (.cons ?c20 (.cons ?c21 (.cons ?c22 .nil))))))))))))))))))))))) ?cfin
            case c0 =>
              intro wq hbw st  K hK
              simp only [Act.put, List.setIfInBounds_toArray, List.set_cons_zero, List.set_cons_succ] at hK ⊢
              unfold opStep
              rw [if_pos (by rfl)]
              go_simp
              exact hK.out _ _ (Below.refl _ _) rfl _ rfl
            case c1 =>
              intro wq hbw st  K hK
              simp only [Act.put, List.setIfInBounds_toArray, List.set_cons_zero, List.set_cons_succ] at hK ⊢
              unfold opStep
              rw [if_pos (by rfl)]
              go_simp
              exact hK.out _ _ (Below.refl _ _) rfl _ rfl
            case c2 =>
              intro wq hbw st  K hK
              simp only [Act.put, List.setIfInBounds_toArray, List.set_cons_zero, List.set_cons_succ] at hK ⊢
              unfold opStep
              rw [if_pos (by rfl)]
              go_simp
              exact hK.out _ _ (Below.refl _ _) rfl _ rfl
            case c3 =>
              intro wq hbw st  K hK
              simp only [Act.put, List.setIfInBounds_toArray, List.set_cons_zero, List.set_cons_succ] at hK ⊢
              unfold opStep
              rw [if_pos (by rfl)]
              have d0 := HC4.out wq hbw
              go_simp
              exact hK.out _ _ (Below.refl _ _) rfl _ rfl
            case c4 =>
              intro wq hbw st  K hK
              simp only [Act.put, List.setIfInBounds_toArray, List.set_cons_zero, List.set_cons_succ] at hK ⊢
              unfold opStep
              rw [if_pos (by rfl)]
              go_simp
              exact hK.out _ _ (Below.refl _ _) rfl _ rfl
            case c5 =>
              intro wq hbw st  K hK
              simp only [Act.put, List.setIfInBounds_toArray, List.set_cons_zero, List.set_cons_succ] at hK ⊢
              unfold opStep
              rw [if_pos (by rfl)]
              go_simp
              have hpc := equiv_any _ _ y t wq (HE4.out wq hbw) (HT4.out wq hbw) HYM.out.2 HST.out
              rw [HDY.out] at hpc
              refine hpc.mono ?_
              rintro e wz ⟨rfl, hbz⟩
              go_simp
              exact hK.out _ _ hbz rfl _ rfl
            case c6 =>
              intro wq hbw st  K hK
              simp only [Act.put, List.setIfInBounds_toArray, List.set_cons_zero, List.set_cons_succ] at hK ⊢
              unfold opStep
              rw [if_pos (by rfl)]
              go_simp
              exact hK.out _ _ (Below.refl _ _) rfl _ rfl
            case c7 =>
              intro wq hbw st  K hK
              simp only [Act.put, List.setIfInBounds_toArray, List.set_cons_zero, List.set_cons_succ] at hK ⊢
              unfold opStep
              rw [if_pos (by rfl)]
              go_simp
              exact hK.out _ _ (Below.refl _ _) rfl _ rfl
            case c8 =>
              intro wq hbw st  K hK
              simp only [Act.put, List.setIfInBounds_toArray, List.set_cons_zero, List.set_cons_succ] at hK ⊢
              unfold opStep
              rw [if_pos (by rfl)]
              go_simp
              exact hK.out _ _ (Below.refl _ _) rfl _ rfl
            case c9 =>
              intro wq hbw st  K hK
              simp only [Act.put, List.setIfInBounds_toArray, List.set_cons_zero, List.set_cons_succ] at hK ⊢
              unfold opStep
              rw [if_pos (by rfl)]
              go_simp
              exact hK.out _ _ (Below.refl _ _) rfl _ rfl
            case c10 =>
              intro wq hbw st  K hK
              simp only [Act.put, List.setIfInBounds_toArray, List.set_cons_zero, List.set_cons_succ] at hK ⊢
              unfold opStep
              rw [if_pos (by rfl)]
              go_simp
              exact hK.out _ _ (Below.refl _ _) rfl _ rfl
            case c11 =>
              intro wq hbw st  K hK
              simp only [Act.put, List.setIfInBounds_toArray, List.set_cons_zero, List.set_cons_succ] at hK ⊢
              unfold opStep
              rw [if_neg (by change ¬ (false = true); exact Bool.false_ne_true)]
              exact hK.out _ _ (Below.refl _ _) rfl _ rfl
            case c12 =>
              intro wq hbw st  K hK
              simp only [Act.put, List.setIfInBounds_toArray, List.set_cons_zero, List.set_cons_succ] at hK ⊢
              unfold opStep
              rw [if_neg (by change ¬ (false = true); exact Bool.false_ne_true)]
              exact hK.out _ _ (Below.refl _ _) rfl _ rfl
            case c13 =>
              intro wq hbw st  K hK
              simp only [Act.put, List.setIfInBounds_toArray, List.set_cons_zero, List.set_cons_succ] at hK ⊢
              unfold opStep
              rw [if_neg (by change ¬ (false = true); exact Bool.false_ne_true)]
              exact hK.out _ _ (Below.refl _ _) rfl _ rfl
            case c14 =>
              intro wq hbw st  K hK
              simp only [Act.put, List.setIfInBounds_toArray, List.set_cons_zero, List.set_cons_succ] at hK ⊢
              unfold opStep
              rw [if_neg (by change ¬ (false = true); exact Bool.false_ne_true)]
              exact hK.out _ _ (Below.refl _ _) rfl _ rfl
            case c15 =>
              intro wq hbw st  K hK
              simp only [Act.put, List.setIfInBounds_toArray, List.set_cons_zero, List.set_cons_succ] at hK ⊢
              unfold opStep
              rw [if_neg (by change ¬ (false = true); exact Bool.false_ne_true)]
              exact hK.out _ _ (Below.refl _ _) rfl _ rfl
            case c16 =>
              intro wq hbw st  K hK
              simp only [Act.put, List.setIfInBounds_toArray, List.set_cons_zero, List.set_cons_succ] at hK ⊢
              unfold opStep
              rw [if_neg (by change ¬ (false = true); exact Bool.false_ne_true)]
              exact hK.out _ _ (Below.refl _ _) rfl _ rfl
            case c17 =>
              intro wq hbw st  K hK
              simp only [Act.put, List.setIfInBounds_toArray, List.set_cons_zero, List.set_cons_succ] at hK ⊢
              unfold opStep
              rw [if_neg (by change ¬ (false = true); exact Bool.false_ne_true)]
              exact hK.out _ _ (Below.refl _ _) rfl _ rfl
            case c18 =>
              intro wq hbw st  K hK
              simp only [Act.put, List.setIfInBounds_toArray, List.set_cons_zero, List.set_cons_succ] at hK ⊢
              unfold opStep
              rw [if_neg (by change ¬ (false = true); exact Bool.false_ne_true)]
              exact hK.out _ _ (Below.refl _ _) rfl _ rfl
            case c19 =>
              intro wq hbw st  K hK
              simp only [Act.put, List.setIfInBounds_toArray, List.set_cons_zero, List.set_cons_succ] at hK ⊢
              unfold opStep
              rw [if_neg (by change ¬ (false = true); exact Bool.false_ne_true)]
              exact hK.out _ _ (Below.refl _ _) rfl _ rfl
            case c20 =>
              intro wq hbw st  K hK
              simp only [Act.put, List.setIfInBounds_toArray, List.set_cons_zero, List.set_cons_succ] at hK ⊢
              unfold opStep
              rw [if_neg (by change ¬ (false = true); exact Bool.false_ne_true)]
              exact hK.out _ _ (Below.refl _ _) rfl _ rfl
            case c21 =>
              intro wq hbw st  K hK
              simp only [Act.put, List.setIfInBounds_toArray, List.set_cons_zero, List.set_cons_succ] at hK ⊢
              unfold opStep
              rw [if_pos (by rfl)]
              go_simp
              exact hK.out _ _ (Below.refl _ _) rfl _ rfl
            case c22 =>
              intro wq hbw st  K hK
              simp only [Act.put, List.setIfInBounds_toArray, List.set_cons_zero, List.set_cons_succ] at hK ⊢
              unfold opStep
              rw [if_pos (by rfl)]
              go_simp
              exact hK.out _ _ (Below.refl _ _) rfl _ rfl
            case cfin =>
              intro wq hbw
              try simp only [FinAll]
              simp only [Act.put, List.setIfInBounds_toArray, List.set_cons_zero, List.set_cons_succ]
              have K5 := Lib.hid (K4'.out.trans (hbw.mono K4'.out.size))
              clear hbw HC4 HE4 HT4 K4'
              have c0 := HU.out.1 wq K5.out
              have HIN := Lib.hid (indep_any _ y wq (HU.out.2.on K5.out) (by omega))
              go_wp2_with fail
              refine HIN.out.mono ?_
              rintro e w6 ⟨v6, rfl, hi6, hb6⟩
              have K6 := Lib.hid (K5.out.trans (hb6.mono K5.out.size))
              have HA := Lib.hid hi6
              obtain ⟨ia, ic, rfl⟩ := row_slc hi6
              clear hi6 hb6 HIN c0 K5
              have hal : (indE y).length ≤ 1000 := by have := indK_len y (y.length - 1); unfold indE; omega
              have HIM := Lib.hid (fun (k : Nat) (h : k < (indE y).length) => ind_mem h)
              obtain ⟨G1, hG1⟩ : ∃ G, G = gk := ⟨_, rfl⟩
              subst hG1
              generalize indE y = AT at *
              go_wp2
              go_loopg [6, 7, 8, 9] AT.length (fun m kx _ _ _ wr => ∃ k : Nat, m + k = AT.length ∧ kx = .int .i64 k ∧ Below w6.heap.size w6 wr)
              case atStart => exact ⟨0, by omega, rfl, Below.refl _ _⟩
              case round =>
                rename World => w7
                obtain ⟨k, hmk, rfl, hb7⟩ := hrel
                have HM2 := Lib.hid hmk
                have K7 := Lib.hid hb7
                have KG7 := Lib.hid (K6.out.trans (hb7.mono K6.out.size))
                have hk : k ≤ AT.length := by omega
                have hk0 : (0 : Int) ≤ (k : Int) := by omega
                clear hmk hb7
                by_cases hkl : k < AT.length
                · have hki : (k : Int) < AT.length := by omega
                  have HKL := Lib.hid (And.intro hkl trivial)
                  obtain ⟨gi, e1, -, hicell⟩ := row_at HA.out (by omega)
                  subst e1
                  obtain ⟨hq1, hq2⟩ := HIM.out k hkl
                  have HIC := Lib.hid (fun wq (hq : Below w7.heap.size w7 wq) => hicell wq (K7.out.trans (hq.mono K7.out.size)) k (nv AT[k]) (by simp [hkl]))
                  generalize AT[k] = q at *
                  clear hkl hicell
                  obtain ⟨q1, hqq⟩ : ∃ q1, q1 = q + 1 := ⟨_, rfl⟩
                  rw [← hqq] at hq1 hq2
                  have hlt : q < y.length := by omega
                  have HSN : Hid (swpE y q ∈ LL) := Lib.hid (HYS.out q (by omega) (by rw [← hqq]; exact hq2))
                  have eq1 : (q : Int) + 1 = (q1 : Int) := by omega
                  have ewq : IntKind.i64.wrap (q1 : Int) = (q1 : Int) := IntWalk.i64_in _ (by omega)
                  have hq0 : (0 : Int) ≤ (q : Int) := by omega
                  have hq00 : ¬ (q : Int) < 0 := by omega
                  have hq10 : (0 : Int) ≤ (q1 : Int) := by omega
                  have hqy : (q : Int) < y.length := by omega
                  have hq1y : (q1 : Int) < y.length := by omega
                  have hq1n : ¬ (y.length : Int) ≤ (q1 : Int) := by omega
                  have hq1d : decide ((y.length : Int) ≤ (q1 : Int)) = false := decide_eq_false hq1n
                  have hq1e : decide (y.length ≤ q1) = false := decide_eq_false (by omega)
                  have HQL := Lib.hid (And.intro hlt (And.intro hq1 hqq))
                  obtain ⟨b1, o1, cap1, s1, c1, hv, hcl1, r1⟩ := HU.out.2.at2 hlt
                  injection hv with e1 e2 e3
                  subst e1
                  obtain ⟨b2, o2, cap2, s2, c2, hv, hcl2, r2⟩ := HU.out.2.at2 hq1
                  injection hv with e1 e2' e3'
                  injection e1 with e1
                  injection e1 with e1 e4
                  subst e1 e4
                  have HSWP : Hid (∀ (g c : Nat) (w1 w2 w3' : World), NxE w3 g c y w1 → w2 = w1.setCells g (q * 2) (#[Value.int .i64 y[q1].1, .slice s2 y[q1].2.length c2] : Array Value).toList → w3' = w2.setCells g (q1 * 2) (#[Value.int .i64 y[q].1, .slice s1 y[q].2.length c1] : Array Value).toList → NxE w3 g c (swpE y q) w3') := Lib.hid (by
                    intro g c w1 w2 w3' h0 h1 h2
                    subst hqq
                    exact swp_put h0 hq1 r1 r2 h1 h2)
                  have HC7 := Lib.hid (fun wq (hq : Below w7.heap.size w7 wq) => HU.out.1 wq (KG7.out.trans (hq.mono KG7.out.size)))
                  have HX7 := Lib.hid (fun wq (hq : Below w7.heap.size w7 wq) => hcl1 wq (KG7.out.trans (hq.mono KG7.out.size)))
                  have HZ7 := Lib.hid (fun wq (hq : Below w7.heap.size w7 wq) => hcl2 wq (KG7.out.trans (hq.mono KG7.out.size)))
                  have HR2 := Lib.hid (And.intro r1 r2)
                  have HSEQ : Hid ((y.set q y[q1]).set q1 y[q] = swpE y q) := Lib.hid (by unfold swpE; rw [← hqq, nthE_eq hlt, nthE_eq hq1])
                  have HY7 := Lib.hid ((HU.out.2.toW).on KG7.out)
                  have HQN := Lib.hid hqq
                  clear e2 e3 e2' e3' hcl1 hcl2 r1 r2
                  generalize y[q] = x at *
                  generalize y[q1] = z at *
                  clear hqq hlt hq1 hq2
                  go_wp2_with fail
                  refine region_left [.is (.slice (some ⟨gi, 0, none⟩) AT.length ic), .is (.int .i64 (k : Int)), .is (.pointer (some ⟨gi, k, none⟩)), .is (.int .i64 (q : Int)), .is (.bool false), .is (.bool false), .is (.slice (some ⟨gi, 0, none⟩) AT.length ic), .is (.int .i64 (k : Int)), .is (.pointer (some ⟨gi, k, none⟩)), .is (.int .i64 (q : Int)), .is (.int .i64 (q1 : Int)), .is (.slice (some ⟨ga, 0, none⟩) LL.length lc), .is (.int .i64 ((0 : Nat) : Int)), .is (.pointer (some ⟨ga, 0, none⟩)), .is (.slice (some ⟨b1, o1, none⟩) y.length uc), .is (.int .i64 (y.length : Int)), .is (.bool false), .is (.bool false)] (by kernel_rfl) rfl (by kernel_rfl) (by kernel_rfl) (.cons ?b0 (.cons ?b1 (.cons ?b2 (.cons ?b3 (.cons ?b4 (.cons ?b5 (.cons ?b6 (.cons ?b7 (.cons ?b8 (.cons ?b9 (.cons ?b10 (.cons ?b11 (.cons ?b12 (.cons ?b13 (.cons ?b14 (.cons ?b15 (.cons ?b16 (.cons ?b17 .nil)))))))))))))))))) ?bfin
                  case b0 =>
                    intro wq hbw st  K hK
                    simp only [Act.put, List.setIfInBounds_toArray, List.set_cons_zero, List.set_cons_succ] at hK ⊢
                    unfold opStep
                    rw [if_pos (by rfl)]
                    go_simp
                    exact hK.out _ _ (Below.refl _ _) rfl _ rfl
                  case b1 =>
                    intro wq hbw st  K hK
                    simp only [Act.put, List.setIfInBounds_toArray, List.set_cons_zero, List.set_cons_succ] at hK ⊢
                    unfold opStep
                    rw [if_pos (by rfl)]
                    go_simp
                    exact hK.out _ _ (Below.refl _ _) rfl _ rfl
                  case b2 =>
                    intro wq hbw st  K hK
                    simp only [Act.put, List.setIfInBounds_toArray, List.set_cons_zero, List.set_cons_succ] at hK ⊢
                    unfold opStep
                    rw [if_pos (by rfl)]
                    go_simp
                    exact hK.out _ _ (Below.refl _ _) rfl _ rfl
                  case b3 =>
                    intro wq hbw st  K hK
                    simp only [Act.put, List.setIfInBounds_toArray, List.set_cons_zero, List.set_cons_succ] at hK ⊢
                    unfold opStep
                    rw [if_pos (by rfl)]
                    have d0 := HIC.out wq hbw
                    unfold nv at d0
                    go_simp
                    exact hK.out _ _ (Below.refl _ _) rfl _ rfl
                  case b4 =>
                    intro wq hbw st  K hK
                    simp only [Act.put, List.setIfInBounds_toArray, List.set_cons_zero, List.set_cons_succ] at hK ⊢
                    unfold opStep
                    rw [if_pos (by rfl)]
                    go_simp
                    exact hK.out _ _ (Below.refl _ _) rfl _ rfl
                  case b5 =>
                    intro wq hbw st  K hK
                    simp only [Act.put, List.setIfInBounds_toArray, List.set_cons_zero, List.set_cons_succ] at hK ⊢
                    unfold opStep
                    rw [if_pos (by rfl)]
                    go_simp
                    exact hK.out _ _ (Below.refl _ _) rfl _ rfl
                  case b6 =>
                    intro wq hbw st  K hK
                    simp only [Act.put, List.setIfInBounds_toArray, List.set_cons_zero, List.set_cons_succ] at hK ⊢
                    unfold opStep
                    rw [if_pos (by rfl)]
                    go_simp
                    exact hK.out _ _ (Below.refl _ _) rfl _ rfl
                  case b7 =>
                    intro wq hbw st  K hK
                    simp only [Act.put, List.setIfInBounds_toArray, List.set_cons_zero, List.set_cons_succ] at hK ⊢
                    unfold opStep
                    rw [if_pos (by rfl)]
                    go_simp
                    exact hK.out _ _ (Below.refl _ _) rfl _ rfl
                  case b8 =>
                    intro wq hbw st  K hK
                    simp only [Act.put, List.setIfInBounds_toArray, List.set_cons_zero, List.set_cons_succ] at hK ⊢
                    unfold opStep
                    rw [if_pos (by rfl)]
                    go_simp
                    exact hK.out _ _ (Below.refl _ _) rfl _ rfl
                  case b9 =>
                    intro wq hbw st  K hK
                    simp only [Act.put, List.setIfInBounds_toArray, List.set_cons_zero, List.set_cons_succ] at hK ⊢
                    unfold opStep
                    rw [if_pos (by rfl)]
                    have d0 := HIC.out wq hbw
                    unfold nv at d0
                    go_simp
                    exact hK.out _ _ (Below.refl _ _) rfl _ rfl
                  case b10 =>
                    intro wq hbw st  K hK
                    simp only [Act.put, List.setIfInBounds_toArray, List.set_cons_zero, List.set_cons_succ] at hK ⊢
                    unfold opStep
                    rw [if_pos (by rfl)]
                    go_simp
                    exact hK.out _ _ (Below.refl _ _) rfl _ rfl
                  case b11 =>
                    intro wq hbw st  K hK
                    simp only [Act.put, List.setIfInBounds_toArray, List.set_cons_zero, List.set_cons_succ] at hK ⊢
                    unfold opStep
                    rw [if_pos (by rfl)]
                    go_simp
                    exact hK.out _ _ (Below.refl _ _) rfl _ rfl
                  case b12 =>
                    intro wq hbw st  K hK
                    simp only [Act.put, List.setIfInBounds_toArray, List.set_cons_zero, List.set_cons_succ] at hK ⊢
                    unfold opStep
                    rw [if_pos (by rfl)]
                    go_simp
                    exact hK.out _ _ (Below.refl _ _) rfl _ rfl
                  case b13 =>
                    intro wq hbw st  K hK
                    simp only [Act.put, List.setIfInBounds_toArray, List.set_cons_zero, List.set_cons_succ] at hK ⊢
                    unfold opStep
                    rw [if_pos (by rfl)]
                    go_simp
                    exact hK.out _ _ (Below.refl _ _) rfl _ rfl
                  case b14 =>
                    intro wq hbw st  K hK
                    simp only [Act.put, List.setIfInBounds_toArray, List.set_cons_zero, List.set_cons_succ] at hK ⊢
                    unfold opStep
                    rw [if_pos (by rfl)]
                    have d0 := HC7.out wq hbw
                    go_simp
                    exact hK.out _ _ (Below.refl _ _) rfl _ rfl
                  case b15 =>
                    intro wq hbw st  K hK
                    simp only [Act.put, List.setIfInBounds_toArray, List.set_cons_zero, List.set_cons_succ] at hK ⊢
                    unfold opStep
                    rw [if_pos (by rfl)]
                    go_simp
                    exact hK.out _ _ (Below.refl _ _) rfl _ rfl
                  case b16 =>
                    intro wq hbw st  K hK
                    simp only [Act.put, List.setIfInBounds_toArray, List.set_cons_zero, List.set_cons_succ] at hK ⊢
                    unfold opStep
                    rw [if_pos (by rfl)]
                    go_simp
                    exact hK.out _ _ (Below.refl _ _) rfl _ rfl
                  case b17 =>
                    intro wq hbw st  K hK
                    simp only [Act.put, List.setIfInBounds_toArray, List.set_cons_zero, List.set_cons_succ] at hK ⊢
                    unfold opStep
                    rw [if_pos (by rfl)]
                    go_simp
                    exact hK.out _ _ (Below.refl _ _) rfl _ rfl
                  case bfin =>
                    intro wq hbw
                    try simp only [FinAll]
                    simp only [Act.put, List.setIfInBounds_toArray, List.set_cons_zero, List.set_cons_succ]
                    have K8 := Lib.hid (K7.out.trans (hbw.mono K7.out.size))
                    have KG8 := Lib.hid (KG7.out.trans (hbw.mono KG7.out.size))
                    have HC8 := Lib.hid (fun wz (hz : Below wq.heap.size wq wz) => HC7.out wz (hbw.trans (hz.mono hbw.size)))
                    have HX8 := Lib.hid (fun wz (hz : Below wq.heap.size wq wz) => HX7.out wz (hbw.trans (hz.mono hbw.size)))
                    have HZ8 := Lib.hid (fun wz (hz : Below wq.heap.size wq wz) => HZ7.out wz (hbw.trans (hz.mono hbw.size)))
                    have HI8 := Lib.hid (fun wz (hz : Below wq.heap.size wq wz) => HIC.out wz (hbw.trans (hz.mono hbw.size)))
                    have HY8 := Lib.hid (HY7.out.on hbw)
                    clear hbw K7 KG7 HC7 HX7 HZ7 HIC HY7
                    rename World => w8
                    have HB0 : Hid (Below w8.heap.size w8 (w8.alloc (.cells #[] 29))) := Lib.hid ((Below.refl _ _).alloc (Nat.le_refl _) _)
                    have c0 := HC8.out _ HB0.out
                    go_wp2_with (at_builtin; refine append_evw (B := w8.heap.size) (w0 := w8) (W1 := w3) rfl _ _ rfl _ _ [] y rfl (OwnE.made (EvW w3) (Nat.le_refl _) (Nat.le_refl _) (Below.refl _ _)) rfl (HY8.out.on HB0.out) (by simp; omega) ?_)
                    intro v9 w9 h9 hk9
                    clear c0 hk9 HB0
                    try rw [List.nil_append] at h9
                    obtain ⟨o9, c9, rfl⟩ := h9.slc
                    obtain ⟨gn, e9, -, hgB, hnx⟩ := NxE.of_own h9 (by have := HQL.out.1; omega)
                    subst e9
                    have KB9 := Lib.hid h9.1.2.2
                    have HNX := Lib.hid hnx
                    have HGB := Lib.hid hgB
                    clear h9 hnx hgB
                    have HON := Lib.hid (fun wq (hq : Below w8.heap.size w9 wq) => KB9.out.trans hq)
                    go_upto_region 20 with fail
                    have HLAST : Hid (∀ wq, NxE w3 gn c9 (y.set q z) wq → NxE w3 gn c9 (swpE y q) (wq.setCells gn (q1 * 2) (#[.int .i64 x.1, .slice s1 x.2.length c1] : Array Value).toList)) := Lib.hid (fun wq h => by
                      have h1 := h.put (q := q1) (e := x) (s := s1) (d := c1) (by rw [List.length_set]; exact HQL.out.2.1) HR2.out.1
                      have e : (y.set q z).set q1 x = swpE y q := HSEQ.out
                      rwa [e] at h1)
                    refine region_inv w8.heap.size (JT 33 35 (fun w => NxE w3 gn c9 y w) (fun w => NxE w3 gn c9 (y.set q z) w) (fun w => NxE w3 gn c9 (swpE y q) w)) [some (.slice (some ⟨gn, 0, none⟩) y.length c9), some (.slice (some ⟨gi, 0, none⟩) AT.length ic), some (.int .i64 (k : Int)), some (.pointer (some ⟨gi, k, none⟩)), some (.int .i64 (q : Int)), some (.slice (some ⟨gn, 0, none⟩) y.length c9), some (.slice (some ⟨gi, 0, none⟩) AT.length ic), some (.int .i64 (k : Int)), some (.pointer (some ⟨gi, k, none⟩)), some (.int .i64 (q : Int)), some (.int .i64 (q1 : Int)), some (.slice (some ⟨ga, 0, none⟩) LL.length lc), some (.int .i64 ((0 : Nat) : Int)), some (.pointer (some ⟨ga, 0, none⟩)), some (.slice (some ⟨b1, o1, none⟩) y.length uc), some (.slice (some ⟨gi, 0, none⟩) AT.length ic), some (.int .i64 (k : Int)), some (.pointer (some ⟨gi, k, none⟩)), some (.int .i64 (q : Int)), some (.int .i64 (q1 : Int)), some (.pointer (some ⟨b1, o1 + q1 * 2, none⟩)), some (.agg #[.int .i64 z.1, .slice s2 z.2.length c2]), some (.slice (some ⟨ga, 0, none⟩) LL.length lc), some (.int .i64 ((0 : Nat) : Int)), some (.pointer (some ⟨ga, 0, none⟩)), some (.slice (some ⟨b1, o1, none⟩) y.length uc), some (.slice (some ⟨gi, 0, none⟩) AT.length ic), some (.int .i64 (k : Int)), some (.pointer (some ⟨gi, k, none⟩)), some (.int .i64 (q : Int)), some (.pointer (some ⟨b1, o1 + q * 2, none⟩)), some (.agg #[.int .i64 x.1, .slice s1 x.2.length c1]), some (.pointer (some ⟨gn, q * 2, none⟩)), none, some (.pointer (some ⟨gn, q1 * 2, none⟩)), none] (by kernel_rfl) rfl (by kernel_rfl) (by kernel_rfl) (JT.start HNX.out.drew) (.cons ?z0 (.cons ?z1 (.cons ?z2 (.cons ?z3 (.cons ?z4 (.cons ?z5 (.cons ?z6 (.cons ?z7 (.cons ?z8 (.cons ?z9 (.cons ?z10 (.cons ?z11 (.cons ?z12 (.cons ?z13 (.cons ?z14 (.cons ?z15 (.cons ?z16 (.cons ?z17 (.cons ?z18 (.cons ?z19 (.cons ?z20 (.cons ?z21 (.cons ?z22 (.cons ?z23 (.cons ?z24 (.cons ?z25 (.cons ?z26 (.cons ?z27 (.cons ?z28 (.cons ?z29 (.cons ?z30 (.cons ?z31 (.cons ?z32 (.cons ?z33 (.cons ?z34 (.cons ?z35 .nil)))))))))))))))))))))))))))))))))))) ?zfin
                    case z0 =>
                      intro wq hbw D st hJ hD hdp K hK
                      simp only [Act.put, List.setIfInBounds_toArray, List.set_cons_zero, List.set_cons_succ] at hK ⊢
                      unfold opStep
                      rw [if_pos (by rfl)]
                      go_simp
                      exact hK.out _ _ (Below.refl _ _) (fun u hu => Option.some.inj hu) (hJ.pure 0 _ (by decide) (by decide)) _ rfl
                    case z1 =>
                      intro wq hbw D st hJ hD hdp K hK
                      simp only [Act.put, List.setIfInBounds_toArray, List.set_cons_zero, List.set_cons_succ] at hK ⊢
                      unfold opStep
                      rw [if_pos (by rfl)]
                      go_simp
                      exact hK.out _ _ (Below.refl _ _) (fun u hu => Option.some.inj hu) (hJ.pure 1 _ (by decide) (by decide)) _ rfl
                    case z2 =>
                      intro wq hbw D st hJ hD hdp K hK
                      simp only [Act.put, List.setIfInBounds_toArray, List.set_cons_zero, List.set_cons_succ] at hK ⊢
                      unfold opStep
                      rw [if_pos (by rfl)]
                      go_simp
                      exact hK.out _ _ (Below.refl _ _) (fun u hu => Option.some.inj hu) (hJ.pure 2 _ (by decide) (by decide)) _ rfl
                    case z3 =>
                      intro wq hbw D st hJ hD hdp K hK
                      simp only [Act.put, List.setIfInBounds_toArray, List.set_cons_zero, List.set_cons_succ] at hK ⊢
                      unfold opStep
                      rw [if_pos (by rfl)]
                      go_simp
                      exact hK.out _ _ (Below.refl _ _) (fun u hu => Option.some.inj hu) (hJ.pure 3 _ (by decide) (by decide)) _ rfl
                    case z4 =>
                      intro wq hbw D st hJ hD hdp K hK
                      simp only [Act.put, List.setIfInBounds_toArray, List.set_cons_zero, List.set_cons_succ] at hK ⊢
                      unfold opStep
                      rw [if_pos (by rfl)]
                      have d0 := HI8.out wq (HON.out wq hbw)
                      unfold nv at d0
                      go_simp
                      exact hK.out _ _ (Below.refl _ _) (fun u hu => Option.some.inj hu) (hJ.pure 4 _ (by decide) (by decide)) _ rfl
                    case z5 =>
                      intro wq hbw D st hJ hD hdp K hK
                      simp only [Act.put, List.setIfInBounds_toArray, List.set_cons_zero, List.set_cons_succ] at hK ⊢
                      unfold opStep
                      rw [if_pos (by rfl)]
                      go_simp
                      exact hK.out _ _ (Below.refl _ _) (fun u hu => Option.some.inj hu) (hJ.pure 5 _ (by decide) (by decide)) _ rfl
                    case z6 =>
                      intro wq hbw D st hJ hD hdp K hK
                      simp only [Act.put, List.setIfInBounds_toArray, List.set_cons_zero, List.set_cons_succ] at hK ⊢
                      unfold opStep
                      rw [if_pos (by rfl)]
                      go_simp
                      exact hK.out _ _ (Below.refl _ _) (fun u hu => Option.some.inj hu) (hJ.pure 6 _ (by decide) (by decide)) _ rfl
                    case z7 =>
                      intro wq hbw D st hJ hD hdp K hK
                      simp only [Act.put, List.setIfInBounds_toArray, List.set_cons_zero, List.set_cons_succ] at hK ⊢
                      unfold opStep
                      rw [if_pos (by rfl)]
                      go_simp
                      exact hK.out _ _ (Below.refl _ _) (fun u hu => Option.some.inj hu) (hJ.pure 7 _ (by decide) (by decide)) _ rfl
                    case z8 =>
                      intro wq hbw D st hJ hD hdp K hK
                      simp only [Act.put, List.setIfInBounds_toArray, List.set_cons_zero, List.set_cons_succ] at hK ⊢
                      unfold opStep
                      rw [if_pos (by rfl)]
                      go_simp
                      exact hK.out _ _ (Below.refl _ _) (fun u hu => Option.some.inj hu) (hJ.pure 8 _ (by decide) (by decide)) _ rfl
                    case z9 =>
                      intro wq hbw D st hJ hD hdp K hK
                      simp only [Act.put, List.setIfInBounds_toArray, List.set_cons_zero, List.set_cons_succ] at hK ⊢
                      unfold opStep
                      rw [if_pos (by rfl)]
                      have d0 := HI8.out wq (HON.out wq hbw)
                      unfold nv at d0
                      go_simp
                      exact hK.out _ _ (Below.refl _ _) (fun u hu => Option.some.inj hu) (hJ.pure 9 _ (by decide) (by decide)) _ rfl
                    case z10 =>
                      intro wq hbw D st hJ hD hdp K hK
                      simp only [Act.put, List.setIfInBounds_toArray, List.set_cons_zero, List.set_cons_succ] at hK ⊢
                      unfold opStep
                      rw [if_pos (by rfl)]
                      go_simp
                      exact hK.out _ _ (Below.refl _ _) (fun u hu => Option.some.inj hu) (hJ.pure 10 _ (by decide) (by decide)) _ rfl
                    case z11 =>
                      intro wq hbw D st hJ hD hdp K hK
                      simp only [Act.put, List.setIfInBounds_toArray, List.set_cons_zero, List.set_cons_succ] at hK ⊢
                      unfold opStep
                      rw [if_pos (by rfl)]
                      go_simp
                      exact hK.out _ _ (Below.refl _ _) (fun u hu => Option.some.inj hu) (hJ.pure 11 _ (by decide) (by decide)) _ rfl
                    case z12 =>
                      intro wq hbw D st hJ hD hdp K hK
                      simp only [Act.put, List.setIfInBounds_toArray, List.set_cons_zero, List.set_cons_succ] at hK ⊢
                      unfold opStep
                      rw [if_pos (by rfl)]
                      go_simp
                      exact hK.out _ _ (Below.refl _ _) (fun u hu => Option.some.inj hu) (hJ.pure 12 _ (by decide) (by decide)) _ rfl
                    case z13 =>
                      intro wq hbw D st hJ hD hdp K hK
                      simp only [Act.put, List.setIfInBounds_toArray, List.set_cons_zero, List.set_cons_succ] at hK ⊢
                      unfold opStep
                      rw [if_pos (by rfl)]
                      go_simp
                      exact hK.out _ _ (Below.refl _ _) (fun u hu => Option.some.inj hu) (hJ.pure 13 _ (by decide) (by decide)) _ rfl
                    case z14 =>
                      intro wq hbw D st hJ hD hdp K hK
                      simp only [Act.put, List.setIfInBounds_toArray, List.set_cons_zero, List.set_cons_succ] at hK ⊢
                      unfold opStep
                      rw [if_pos (by rfl)]
                      have d0 := HC8.out wq (HON.out wq hbw)
                      go_simp
                      exact hK.out _ _ (Below.refl _ _) (fun u hu => Option.some.inj hu) (hJ.pure 14 _ (by decide) (by decide)) _ rfl
                    case z15 =>
                      intro wq hbw D st hJ hD hdp K hK
                      simp only [Act.put, List.setIfInBounds_toArray, List.set_cons_zero, List.set_cons_succ] at hK ⊢
                      unfold opStep
                      rw [if_pos (by rfl)]
                      go_simp
                      exact hK.out _ _ (Below.refl _ _) (fun u hu => Option.some.inj hu) (hJ.pure 15 _ (by decide) (by decide)) _ rfl
                    case z16 =>
                      intro wq hbw D st hJ hD hdp K hK
                      simp only [Act.put, List.setIfInBounds_toArray, List.set_cons_zero, List.set_cons_succ] at hK ⊢
                      unfold opStep
                      rw [if_pos (by rfl)]
                      go_simp
                      exact hK.out _ _ (Below.refl _ _) (fun u hu => Option.some.inj hu) (hJ.pure 16 _ (by decide) (by decide)) _ rfl
                    case z17 =>
                      intro wq hbw D st hJ hD hdp K hK
                      simp only [Act.put, List.setIfInBounds_toArray, List.set_cons_zero, List.set_cons_succ] at hK ⊢
                      unfold opStep
                      rw [if_pos (by rfl)]
                      go_simp
                      exact hK.out _ _ (Below.refl _ _) (fun u hu => Option.some.inj hu) (hJ.pure 17 _ (by decide) (by decide)) _ rfl
                    case z18 =>
                      intro wq hbw D st hJ hD hdp K hK
                      simp only [Act.put, List.setIfInBounds_toArray, List.set_cons_zero, List.set_cons_succ] at hK ⊢
                      unfold opStep
                      rw [if_pos (by rfl)]
                      have d0 := HI8.out wq (HON.out wq hbw)
                      unfold nv at d0
                      go_simp
                      exact hK.out _ _ (Below.refl _ _) (fun u hu => Option.some.inj hu) (hJ.pure 18 _ (by decide) (by decide)) _ rfl
                    case z19 =>
                      intro wq hbw D st hJ hD hdp K hK
                      simp only [Act.put, List.setIfInBounds_toArray, List.set_cons_zero, List.set_cons_succ] at hK ⊢
                      unfold opStep
                      rw [if_pos (by rfl)]
                      go_simp
                      exact hK.out _ _ (Below.refl _ _) (fun u hu => Option.some.inj hu) (hJ.pure 19 _ (by decide) (by decide)) _ rfl
                    case z20 =>
                      intro wq hbw D st hJ hD hdp K hK
                      simp only [Act.put, List.setIfInBounds_toArray, List.set_cons_zero, List.set_cons_succ] at hK ⊢
                      unfold opStep
                      rw [if_pos (by rfl)]
                      go_simp
                      exact hK.out _ _ (Below.refl _ _) (fun u hu => Option.some.inj hu) (hJ.pure 20 _ (by decide) (by decide)) _ rfl
                    case z21 =>
                      intro wq hbw D st hJ hD hdp K hK
                      simp only [Act.put, List.setIfInBounds_toArray, List.set_cons_zero, List.set_cons_succ] at hK ⊢
                      unfold opStep
                      rw [if_pos (by rfl)]
                      have dd := Lib.hid (HZ8.out wq (HON.out wq hbw))
                      have d0 := dd.out.1
                      have d1 := dd.out.2
                      go_simp
                      exact hK.out _ _ (Below.refl _ _) (fun u hu => Option.some.inj hu) (hJ.pure 21 _ (by decide) (by decide)) _ rfl
                    case z22 =>
                      intro wq hbw D st hJ hD hdp K hK
                      simp only [Act.put, List.setIfInBounds_toArray, List.set_cons_zero, List.set_cons_succ] at hK ⊢
                      unfold opStep
                      rw [if_pos (by rfl)]
                      go_simp
                      exact hK.out _ _ (Below.refl _ _) (fun u hu => Option.some.inj hu) (hJ.pure 22 _ (by decide) (by decide)) _ rfl
                    case z23 =>
                      intro wq hbw D st hJ hD hdp K hK
                      simp only [Act.put, List.setIfInBounds_toArray, List.set_cons_zero, List.set_cons_succ] at hK ⊢
                      unfold opStep
                      rw [if_pos (by rfl)]
                      go_simp
                      exact hK.out _ _ (Below.refl _ _) (fun u hu => Option.some.inj hu) (hJ.pure 23 _ (by decide) (by decide)) _ rfl
                    case z24 =>
                      intro wq hbw D st hJ hD hdp K hK
                      simp only [Act.put, List.setIfInBounds_toArray, List.set_cons_zero, List.set_cons_succ] at hK ⊢
                      unfold opStep
                      rw [if_pos (by rfl)]
                      go_simp
                      exact hK.out _ _ (Below.refl _ _) (fun u hu => Option.some.inj hu) (hJ.pure 24 _ (by decide) (by decide)) _ rfl
                    case z25 =>
                      intro wq hbw D st hJ hD hdp K hK
                      simp only [Act.put, List.setIfInBounds_toArray, List.set_cons_zero, List.set_cons_succ] at hK ⊢
                      unfold opStep
                      rw [if_pos (by rfl)]
                      have d0 := HC8.out wq (HON.out wq hbw)
                      go_simp
                      exact hK.out _ _ (Below.refl _ _) (fun u hu => Option.some.inj hu) (hJ.pure 25 _ (by decide) (by decide)) _ rfl
                    case z26 =>
                      intro wq hbw D st hJ hD hdp K hK
                      simp only [Act.put, List.setIfInBounds_toArray, List.set_cons_zero, List.set_cons_succ] at hK ⊢
                      unfold opStep
                      rw [if_pos (by rfl)]
                      go_simp
                      exact hK.out _ _ (Below.refl _ _) (fun u hu => Option.some.inj hu) (hJ.pure 26 _ (by decide) (by decide)) _ rfl
                    case z27 =>
                      intro wq hbw D st hJ hD hdp K hK
                      simp only [Act.put, List.setIfInBounds_toArray, List.set_cons_zero, List.set_cons_succ] at hK ⊢
                      unfold opStep
                      rw [if_pos (by rfl)]
                      go_simp
                      exact hK.out _ _ (Below.refl _ _) (fun u hu => Option.some.inj hu) (hJ.pure 27 _ (by decide) (by decide)) _ rfl
                    case z28 =>
                      intro wq hbw D st hJ hD hdp K hK
                      simp only [Act.put, List.setIfInBounds_toArray, List.set_cons_zero, List.set_cons_succ] at hK ⊢
                      unfold opStep
                      rw [if_pos (by rfl)]
                      go_simp
                      exact hK.out _ _ (Below.refl _ _) (fun u hu => Option.some.inj hu) (hJ.pure 28 _ (by decide) (by decide)) _ rfl
                    case z29 =>
                      intro wq hbw D st hJ hD hdp K hK
                      simp only [Act.put, List.setIfInBounds_toArray, List.set_cons_zero, List.set_cons_succ] at hK ⊢
                      unfold opStep
                      rw [if_pos (by rfl)]
                      have d0 := HI8.out wq (HON.out wq hbw)
                      unfold nv at d0
                      go_simp
                      exact hK.out _ _ (Below.refl _ _) (fun u hu => Option.some.inj hu) (hJ.pure 29 _ (by decide) (by decide)) _ rfl
                    case z30 =>
                      intro wq hbw D st hJ hD hdp K hK
                      simp only [Act.put, List.setIfInBounds_toArray, List.set_cons_zero, List.set_cons_succ] at hK ⊢
                      unfold opStep
                      rw [if_pos (by rfl)]
                      go_simp
                      exact hK.out _ _ (Below.refl _ _) (fun u hu => Option.some.inj hu) (hJ.pure 30 _ (by decide) (by decide)) _ rfl
                    case z31 =>
                      intro wq hbw D st hJ hD hdp K hK
                      simp only [Act.put, List.setIfInBounds_toArray, List.set_cons_zero, List.set_cons_succ] at hK ⊢
                      unfold opStep
                      rw [if_pos (by rfl)]
                      have dd := Lib.hid (HX8.out wq (HON.out wq hbw))
                      have d0 := dd.out.1
                      have d1 := dd.out.2
                      go_simp
                      exact hK.out _ _ (Below.refl _ _) (fun u hu => Option.some.inj hu) (hJ.pure 31 _ (by decide) (by decide)) _ rfl
                    case z32 =>
                      intro wq hbw D st hJ hD hdp K hK
                      simp only [Act.put, List.setIfInBounds_toArray, List.set_cons_zero, List.set_cons_succ] at hK ⊢
                      unfold opStep
                      rw [if_pos (by rfl)]
                      go_simp
                      exact hK.out _ _ (Below.refl _ _) (fun u hu => Option.some.inj hu) (hJ.pure 32 _ (by decide) (by decide)) _ rfl
                    case z33 =>
                      intro wq hbw D st hJ hD hdp K hK
                      simp only [Act.put, List.setIfInBounds_toArray, List.set_cons_zero, List.set_cons_succ] at hK ⊢
                      unfold opStep
                      rw [if_pos (by rfl)]
                      have hA := hJ.atA hD
                      refine wp_store_mid 29 (.tmp 132) (.tmp 121) (by rfl) gn (q * 2) #[.int .i64 z.1, .slice s2 z.2.length c2] (by rfl) (by rfl) (hA.there HQL.out.1 _ rfl) ev_info (one2 _ _ _ _) ?_
                      exact hK.out _ _ (below_put HGB.out _) (fun u hu => by cases hu) (hJ.s1 hD (by decide) (hA.put HQL.out.1 HR2.out.2) undef) _ rfl
                    case z34 =>
                      intro wq hbw D st hJ hD hdp K hK
                      simp only [Act.put, List.setIfInBounds_toArray, List.set_cons_zero, List.set_cons_succ] at hK ⊢
                      unfold opStep
                      rw [if_pos (by rfl)]
                      go_simp
                      exact hK.out _ _ (Below.refl _ _) (fun u hu => Option.some.inj hu) (hJ.pure 34 _ (by decide) (by decide)) _ rfl
                    case z35 =>
                      intro wq hbw D st hJ hD hdp K hK
                      simp only [Act.put, List.setIfInBounds_toArray, List.set_cons_zero, List.set_cons_succ] at hK ⊢
                      unfold opStep
                      rw [if_pos (by rfl)]
                      have d33 := hdp 33 (of_decide_eq_true (by kernel_rfl))
                      have hA := hJ.atB d33 hD
                      refine wp_store_mid 29 (.tmp 133) (.tmp 131) (by rfl) gn (q1 * 2) #[.int .i64 x.1, .slice s1 x.2.length c1] (by rfl) (by rfl) (hA.there (by rw [List.length_set]; exact HQL.out.2.1) _ rfl) ev_info (one2 _ _ _ _) ?_
                      exact hK.out _ _ (below_put HGB.out _) (fun u hu => by cases hu) (hJ.s2 d33 (by decide) (HLAST.out wq hA) undef) _ rfl
                    case zfin =>
                      intro wq hbw D st hall hJ
                      simp only [FinAll, lfOf]
                      simp only [Act.put, List.setIfInBounds_toArray, List.set_cons_zero, List.set_cons_succ]
                      have HN9 := Lib.hid (hJ.fin (hall 35 (by decide)))
                      have KG9 := Lib.hid (KG8.out.trans ((KB9.out.trans hbw).mono KG8.out.size))
                      have K9 := Lib.hid (K8.out.trans ((KB9.out.trans hbw).mono K8.out.size))
                      clear hJ hall hbw HLAST HNX HON HC8 HX8 HZ8 HI8 HY8 K8 KG8 HGB KB9 HSWP
                      generalize st 33 = x33
                      generalize st 35 = x35
                      have HNL : Hid ((swpE y q).length = y.length) := Lib.hid (swpE_len y q)
                      generalize swpE y q = nx at *
                      have HNR : Hid (ReadsE wq (.slice (some ⟨gn, 0, none⟩) y.length c9) nx) := Lib.hid (by rw [← HNL.out]; exact HN9.out.reads.toE KG9.out)
                      clear HN9
                      go_wp2
                      obtain ⟨G2, hG2⟩ : ∃ G, G = gk := ⟨_, rfl⟩
                      subst hG2
                      go_loopg [8, 9] LL.length (fun m f mx wr => ∃ p : Nat, m + p = LL.length ∧ mx = .int .i64 p ∧ f = .bool ((LL.take p).any fun u => decide (u = nx)) ∧ Below wq.heap.size wq wr)
                      case atStart => exact ⟨0, by omega, rfl, by simp, Below.refl _ _⟩
                      case round =>
                        rename World => w10
                        obtain ⟨p, hmp, rfl, rfl, hb10⟩ := hrel
                        have HM3 := Lib.hid hmp
                        have K10 := Lib.hid (K9.out.trans (hb10.mono K9.out.size))
                        have KG10 := Lib.hid (KG9.out.trans (hb10.mono KG9.out.size))
                        have KN10 := Lib.hid hb10
                        have hp : p ≤ LL.length := by omega
                        have hp0 : (0 : Int) ≤ (p : Int) := by omega
                        have HANY := Lib.hid (@anyT_succ (fun u => decide (u = nx)) LL p)
                        have HALL : Hid (p = LL.length → ((LL.take p).any fun u => decide (u = nx)) = true) := Lib.hid fun h => by rw [h, List.take_length, anyT_mem]; exact decide_eq_true HSN.out
                        generalize ((LL.take p).any fun u => decide (u = nx)) = f at *
                        clear hmp hb10
                        cases f with
                        | true =>
                          by_cases hpl : p < LL.length
                          · have hpi : (p : Int) < LL.length := by omega
                            clear hpl
                            go_wp2
                            go_roundg (AT.length - (k + 1))
                            case measure => have := HM2.out; have := HKL.out.1; omega
                            case rel => exact ⟨k + 1, by have := HKL.out.1; omega, by go_num, K10.out⟩
                          · have hpi : ¬ (p : Int) < LL.length := by omega
                            clear hpl
                            go_wp2
                            go_roundg (AT.length - (k + 1))
                            case measure => have := HM2.out; have := HKL.out.1; omega
                            case rel => exact ⟨k + 1, by have := HKL.out.1; omega, by go_num, K10.out⟩
                        | false =>
                          have hpl : p < LL.length := by
                            by_cases h : p < LL.length
                            · exact h
                            · have := HALL.out (by omega); cases this
                          have hpi : (p : Int) < LL.length := by omega
                          have HPL := Lib.hid (And.intro hpl trivial)
                          have HAN := Lib.hid (HANY.out hpl)
                          obtain ⟨ma, mc, hmcell, hmrd⟩ := RowsF.cell HG.out hpl
                          have c0 := hmcell w10 KG10.out
                          have HZ := Lib.hid (hmrd.on KG10.out)
                          generalize LL[p] = zz at *
                          clear hpl hmcell hmrd HANY HALL
                          go_wp2_with fail
                          refine (rstr_any _ _ zz nx w10 HZ.out (HNR.out.on KN10.out)).mono ?_
                          rintro e w11 ⟨rfl, hb11⟩
                          have K11 := Lib.hid (KN10.out.trans (hb11.mono KN10.out.size))
                          clear hb11 HZ c0
                          try simp only [] at HAN
                          generalize decide (zz = nx) = d at *
                          go_wp2
                          go_roundg (LL.length - (p + 1))
                          case measure => have := HM3.out; have := HPL.out.1; omega
                          case rel => exact ⟨p + 1, by have := HPL.out.1; omega, by go_num, by rw [HAN.out, Bool.false_or], K11.out⟩
                · have hki : ¬ (k : Int) < AT.length := by omega
                  go_wp2
                  go_roundg (LL.length - (0 + 1))
                  case measure => have := HM.out; have := HIL.out.1; omega
                  case rel => exact ⟨0 + 1, by have := HIL.out.1; omega, by go_num, KG7.out⟩
          · have hi2 : (0 : Int) < (i : Int) := by omega
            have hi2d : decide ((0 : Int) < (i : Int)) = true := decide_eq_true hi2
            have hi2e : decide (0 < i) = true := decide_eq_true (by omega)
            obtain ⟨j, hj⟩ : ∃ j, i = j + 1 := ⟨i - 1, by omega⟩
            have ej : (i : Int) - 1 = (j : Int) := by omega
            have ewj : IntKind.i64.wrap (j : Int) = (j : Int) := IntWalk.i64_in _ (by omega)
            have hj0 : (0 : Int) ≤ (j : Int) := by omega
            have hjl : j < LL.length := by have := HIL.out.1; omega
            have hji : (j : Int) < LL.length := by omega
            have hjne := HYD.out j hjl (by omega)
            obtain ⟨va, vc, hvcell, hvrd⟩ := RowsF.cell HG.out hjl
            have HV := Lib.hid (And.intro (fun wq (hq : Below w4.heap.size w4 wq) => hvcell wq (K4'.out.trans (hq.mono K4'.out.size))) (fun wq (hq : Below w4.heap.size w4 wq) => hvrd.on (K4'.out.trans (hq.mono K4'.out.size))))
            have HNE : Hid (decide (LL[j] = y) = false) := Lib.hid (decide_eq_false hjne)
            generalize LL[j] = v at *
            clear hj hjl hjne hvcell hvrd
            go_wp2_with fail
            refine region_left [.is (.slice (some ⟨ga, 0, none⟩) LL.length lc), .is (.int .i64 (i : Int)), .is (.pointer (some ⟨ga, i, none⟩)), .is (.slice ua y.length uc), .is (.slice ao t.length cap), .is (.bool true), .is (.bool false), .is (.bool false), .is (.int .i64 (i : Int)), .is (.bool true), .is (.bool true), .is (.slice (some ⟨ga, 0, none⟩) LL.length lc), .is (.int .i64 (i : Int)), .is (.int .i64 (j : Int)), .is (.pointer (some ⟨ga, j, none⟩)), .is (.slice va v.length vc), .is (.slice (some ⟨ga, 0, none⟩) LL.length lc), .is (.int .i64 (i : Int)), .is (.pointer (some ⟨ga, i, none⟩)), .is (.slice ua y.length uc), .is (.bool false), .is (.bool false), .is (.bool false)] (by kernel_rfl) rfl (by kernel_rfl) (by kernel_rfl) (.cons ?d0 (.cons ?d1 (.cons ?d2 (.cons ?d3 (.cons ?d4 (.cons ?d5 (.cons ?d6 (.cons ?d7 (.cons ?d8 (.cons ?d9 (.cons ?d10 (.cons ?d11 (.cons ?d12 (.cons ?d13 (.cons ?d14 (.cons ?d15 (.cons ?d16 (.cons ?d17 (.cons ?d18 (.cons ?d19 (.cons ?d20 (.cons ?d21 (.cons ?d22 .nil))))))))))))))))))))))) ?dfin
            case d0 =>
              intro wq hbw st  K hK
              simp only [Act.put, List.setIfInBounds_toArray, List.set_cons_zero, List.set_cons_succ] at hK ⊢
              unfold opStep
              rw [if_pos (by rfl)]
              go_simp
              exact hK.out _ _ (Below.refl _ _) rfl _ rfl
            case d1 =>
              intro wq hbw st  K hK
              simp only [Act.put, List.setIfInBounds_toArray, List.set_cons_zero, List.set_cons_succ] at hK ⊢
              unfold opStep
              rw [if_pos (by rfl)]
              go_simp
              exact hK.out _ _ (Below.refl _ _) rfl _ rfl
            case d2 =>
              intro wq hbw st  K hK
              simp only [Act.put, List.setIfInBounds_toArray, List.set_cons_zero, List.set_cons_succ] at hK ⊢
              unfold opStep
              rw [if_pos (by rfl)]
              go_simp
              exact hK.out _ _ (Below.refl _ _) rfl _ rfl
            case d3 =>
              intro wq hbw st  K hK
              simp only [Act.put, List.setIfInBounds_toArray, List.set_cons_zero, List.set_cons_succ] at hK ⊢
              unfold opStep
              rw [if_pos (by rfl)]
              have d0 := HC4.out wq hbw
              go_simp
              exact hK.out _ _ (Below.refl _ _) rfl _ rfl
            case d4 =>
              intro wq hbw st  K hK
              simp only [Act.put, List.setIfInBounds_toArray, List.set_cons_zero, List.set_cons_succ] at hK ⊢
              unfold opStep
              rw [if_pos (by rfl)]
              go_simp
              exact hK.out _ _ (Below.refl _ _) rfl _ rfl
            case d5 =>
              intro wq hbw st  K hK
              simp only [Act.put, List.setIfInBounds_toArray, List.set_cons_zero, List.set_cons_succ] at hK ⊢
              unfold opStep
              rw [if_pos (by rfl)]
              go_simp
              have hpc := equiv_any _ _ y t wq (HE4.out wq hbw) (HT4.out wq hbw) HYM.out.2 HST.out
              rw [HDY.out] at hpc
              refine hpc.mono ?_
              rintro e wz ⟨rfl, hbz⟩
              go_simp
              exact hK.out _ _ hbz rfl _ rfl
            case d6 =>
              intro wq hbw st  K hK
              simp only [Act.put, List.setIfInBounds_toArray, List.set_cons_zero, List.set_cons_succ] at hK ⊢
              unfold opStep
              rw [if_pos (by rfl)]
              go_simp
              exact hK.out _ _ (Below.refl _ _) rfl _ rfl
            case d7 =>
              intro wq hbw st  K hK
              simp only [Act.put, List.setIfInBounds_toArray, List.set_cons_zero, List.set_cons_succ] at hK ⊢
              unfold opStep
              rw [if_pos (by rfl)]
              go_simp
              exact hK.out _ _ (Below.refl _ _) rfl _ rfl
            case d8 =>
              intro wq hbw st  K hK
              simp only [Act.put, List.setIfInBounds_toArray, List.set_cons_zero, List.set_cons_succ] at hK ⊢
              unfold opStep
              rw [if_pos (by rfl)]
              go_simp
              exact hK.out _ _ (Below.refl _ _) rfl _ rfl
            case d9 =>
              intro wq hbw st  K hK
              simp only [Act.put, List.setIfInBounds_toArray, List.set_cons_zero, List.set_cons_succ] at hK ⊢
              unfold opStep
              rw [if_pos (by rfl)]
              go_simp
              exact hK.out _ _ (Below.refl _ _) rfl _ rfl
            case d10 =>
              intro wq hbw st  K hK
              simp only [Act.put, List.setIfInBounds_toArray, List.set_cons_zero, List.set_cons_succ] at hK ⊢
              unfold opStep
              rw [if_pos (by rfl)]
              go_simp
              exact hK.out _ _ (Below.refl _ _) rfl _ rfl
            case d11 =>
              intro wq hbw st  K hK
              simp only [Act.put, List.setIfInBounds_toArray, List.set_cons_zero, List.set_cons_succ] at hK ⊢
              unfold opStep
              rw [if_pos (by rfl)]
              go_simp
              exact hK.out _ _ (Below.refl _ _) rfl _ rfl
            case d12 =>
              intro wq hbw st  K hK
              simp only [Act.put, List.setIfInBounds_toArray, List.set_cons_zero, List.set_cons_succ] at hK ⊢
              unfold opStep
              rw [if_pos (by rfl)]
              go_simp
              exact hK.out _ _ (Below.refl _ _) rfl _ rfl
            case d13 =>
              intro wq hbw st  K hK
              simp only [Act.put, List.setIfInBounds_toArray, List.set_cons_zero, List.set_cons_succ] at hK ⊢
              unfold opStep
              rw [if_pos (by rfl)]
              go_simp
              exact hK.out _ _ (Below.refl _ _) rfl _ rfl
            case d14 =>
              intro wq hbw st  K hK
              simp only [Act.put, List.setIfInBounds_toArray, List.set_cons_zero, List.set_cons_succ] at hK ⊢
              unfold opStep
              rw [if_pos (by rfl)]
              go_simp
              exact hK.out _ _ (Below.refl _ _) rfl _ rfl
            case d15 =>
              intro wq hbw st  K hK
              simp only [Act.put, List.setIfInBounds_toArray, List.set_cons_zero, List.set_cons_succ] at hK ⊢
              unfold opStep
              rw [if_pos (by rfl)]
              have d0 := HV.out.1 wq hbw
              go_simp
              exact hK.out _ _ (Below.refl _ _) rfl _ rfl
            case d16 =>
              intro wq hbw st  K hK
              simp only [Act.put, List.setIfInBounds_toArray, List.set_cons_zero, List.set_cons_succ] at hK ⊢
              unfold opStep
              rw [if_pos (by rfl)]
              go_simp
              exact hK.out _ _ (Below.refl _ _) rfl _ rfl
            case d17 =>
              intro wq hbw st  K hK
              simp only [Act.put, List.setIfInBounds_toArray, List.set_cons_zero, List.set_cons_succ] at hK ⊢
              unfold opStep
              rw [if_pos (by rfl)]
              go_simp
              exact hK.out _ _ (Below.refl _ _) rfl _ rfl
            case d18 =>
              intro wq hbw st  K hK
              simp only [Act.put, List.setIfInBounds_toArray, List.set_cons_zero, List.set_cons_succ] at hK ⊢
              unfold opStep
              rw [if_pos (by rfl)]
              go_simp
              exact hK.out _ _ (Below.refl _ _) rfl _ rfl
            case d19 =>
              intro wq hbw st  K hK
              simp only [Act.put, List.setIfInBounds_toArray, List.set_cons_zero, List.set_cons_succ] at hK ⊢
              unfold opStep
              rw [if_pos (by rfl)]
              have d0 := HC4.out wq hbw
              go_simp
              exact hK.out _ _ (Below.refl _ _) rfl _ rfl
            case d20 =>
              intro wq hbw st  K hK
              simp only [Act.put, List.setIfInBounds_toArray, List.set_cons_zero, List.set_cons_succ] at hK ⊢
              unfold opStep
              rw [if_pos (by rfl)]
              go_simp
              have hpc := rstr_any _ _ v y wq (HV.out.2 wq hbw) (HE4.out wq hbw)
              rw [HNE.out] at hpc
              refine hpc.mono ?_
              rintro e wz ⟨rfl, hbz⟩
              go_simp
              exact hK.out _ _ hbz rfl _ rfl
            case d21 =>
              intro wq hbw st  K hK
              simp only [Act.put, List.setIfInBounds_toArray, List.set_cons_zero, List.set_cons_succ] at hK ⊢
              unfold opStep
              rw [if_pos (by rfl)]
              go_simp
              exact hK.out _ _ (Below.refl _ _) rfl _ rfl
            case d22 =>
              intro wq hbw st  K hK
              simp only [Act.put, List.setIfInBounds_toArray, List.set_cons_zero, List.set_cons_succ] at hK ⊢
              unfold opStep
              rw [if_pos (by rfl)]
              go_simp
              exact hK.out _ _ (Below.refl _ _) rfl _ rfl
            case dfin =>
              intro wq hbw
              try simp only [FinAll]
              simp only [Act.put, List.setIfInBounds_toArray, List.set_cons_zero, List.set_cons_succ]
              have K5 := Lib.hid (K4'.out.trans (hbw.mono K4'.out.size))
              clear hbw HC4 HE4 HT4 K4'
              clear HV
              clear ej ewj hj0 hji hi2 hi2d hi2e
              have c0 := HU.out.1 wq K5.out
              have HIN := Lib.hid (indep_any _ y wq (HU.out.2.on K5.out) (by omega))
              go_wp2_with fail
              refine HIN.out.mono ?_
              rintro e w6 ⟨v6, rfl, hi6, hb6⟩
              have K6 := Lib.hid (K5.out.trans (hb6.mono K5.out.size))
              have HA := Lib.hid hi6
              obtain ⟨ia, ic, rfl⟩ := row_slc hi6
              clear hi6 hb6 HIN c0 K5
              have hal : (indE y).length ≤ 1000 := by have := indK_len y (y.length - 1); unfold indE; omega
              have HIM := Lib.hid (fun (k : Nat) (h : k < (indE y).length) => ind_mem h)
              obtain ⟨G1, hG1⟩ : ∃ G, G = gk := ⟨_, rfl⟩
              subst hG1
              generalize indE y = AT at *
              go_wp2
              go_loopg [6, 7, 8, 9] AT.length (fun m kx _ _ _ wr => ∃ k : Nat, m + k = AT.length ∧ kx = .int .i64 k ∧ Below w6.heap.size w6 wr)
              case atStart => exact ⟨0, by omega, rfl, Below.refl _ _⟩
              case round =>
                rename World => w7
                obtain ⟨k, hmk, rfl, hb7⟩ := hrel
                have HM2 := Lib.hid hmk
                have K7 := Lib.hid hb7
                have KG7 := Lib.hid (K6.out.trans (hb7.mono K6.out.size))
                have hk : k ≤ AT.length := by omega
                have hk0 : (0 : Int) ≤ (k : Int) := by omega
                clear hmk hb7
                by_cases hkl : k < AT.length
                · have hki : (k : Int) < AT.length := by omega
                  have HKL := Lib.hid (And.intro hkl trivial)
                  obtain ⟨gi, e1, -, hicell⟩ := row_at HA.out (by omega)
                  subst e1
                  obtain ⟨hq1, hq2⟩ := HIM.out k hkl
                  have HIC := Lib.hid (fun wq (hq : Below w7.heap.size w7 wq) => hicell wq (K7.out.trans (hq.mono K7.out.size)) k (nv AT[k]) (by simp [hkl]))
                  generalize AT[k] = q at *
                  clear hkl hicell
                  obtain ⟨q1, hqq⟩ : ∃ q1, q1 = q + 1 := ⟨_, rfl⟩
                  rw [← hqq] at hq1 hq2
                  have hlt : q < y.length := by omega
                  have HSN : Hid (swpE y q ∈ LL) := Lib.hid (HYS.out q (by omega) (by rw [← hqq]; exact hq2))
                  have eq1 : (q : Int) + 1 = (q1 : Int) := by omega
                  have ewq : IntKind.i64.wrap (q1 : Int) = (q1 : Int) := IntWalk.i64_in _ (by omega)
                  have hq0 : (0 : Int) ≤ (q : Int) := by omega
                  have hq00 : ¬ (q : Int) < 0 := by omega
                  have hq10 : (0 : Int) ≤ (q1 : Int) := by omega
                  have hqy : (q : Int) < y.length := by omega
                  have hq1y : (q1 : Int) < y.length := by omega
                  have hq1n : ¬ (y.length : Int) ≤ (q1 : Int) := by omega
                  have hq1d : decide ((y.length : Int) ≤ (q1 : Int)) = false := decide_eq_false hq1n
                  have hq1e : decide (y.length ≤ q1) = false := decide_eq_false (by omega)
                  have HQL := Lib.hid (And.intro hlt (And.intro hq1 hqq))
                  obtain ⟨b1, o1, cap1, s1, c1, hv, hcl1, r1⟩ := HU.out.2.at2 hlt
                  injection hv with e1 e2 e3
                  subst e1
                  obtain ⟨b2, o2, cap2, s2, c2, hv, hcl2, r2⟩ := HU.out.2.at2 hq1
                  injection hv with e1 e2' e3'
                  injection e1 with e1
                  injection e1 with e1 e4
                  subst e1 e4
                  have HSWP : Hid (∀ (g c : Nat) (w1 w2 w3' : World), NxE w3 g c y w1 → w2 = w1.setCells g (q * 2) (#[Value.int .i64 y[q1].1, .slice s2 y[q1].2.length c2] : Array Value).toList → w3' = w2.setCells g (q1 * 2) (#[Value.int .i64 y[q].1, .slice s1 y[q].2.length c1] : Array Value).toList → NxE w3 g c (swpE y q) w3') := Lib.hid (by
                    intro g c w1 w2 w3' h0 h1 h2
                    subst hqq
                    exact swp_put h0 hq1 r1 r2 h1 h2)
                  have HC7 := Lib.hid (fun wq (hq : Below w7.heap.size w7 wq) => HU.out.1 wq (KG7.out.trans (hq.mono KG7.out.size)))
                  have HX7 := Lib.hid (fun wq (hq : Below w7.heap.size w7 wq) => hcl1 wq (KG7.out.trans (hq.mono KG7.out.size)))
                  have HZ7 := Lib.hid (fun wq (hq : Below w7.heap.size w7 wq) => hcl2 wq (KG7.out.trans (hq.mono KG7.out.size)))
                  have HR2 := Lib.hid (And.intro r1 r2)
                  have HSEQ : Hid ((y.set q y[q1]).set q1 y[q] = swpE y q) := Lib.hid (by unfold swpE; rw [← hqq, nthE_eq hlt, nthE_eq hq1])
                  have HY7 := Lib.hid ((HU.out.2.toW).on KG7.out)
                  have HQN := Lib.hid hqq
                  clear e2 e3 e2' e3' hcl1 hcl2 r1 r2
                  generalize y[q] = x at *
                  generalize y[q1] = z at *
                  clear hqq hlt hq1 hq2
                  go_wp2_with fail
                  refine region_left [.is (.slice (some ⟨gi, 0, none⟩) AT.length ic), .is (.int .i64 (k : Int)), .is (.pointer (some ⟨gi, k, none⟩)), .is (.int .i64 (q : Int)), .is (.bool false), .is (.bool false), .is (.slice (some ⟨gi, 0, none⟩) AT.length ic), .is (.int .i64 (k : Int)), .is (.pointer (some ⟨gi, k, none⟩)), .is (.int .i64 (q : Int)), .is (.int .i64 (q1 : Int)), .is (.slice (some ⟨ga, 0, none⟩) LL.length lc), .is (.int .i64 (i : Int)), .is (.pointer (some ⟨ga, i, none⟩)), .is (.slice (some ⟨b1, o1, none⟩) y.length uc), .is (.int .i64 (y.length : Int)), .is (.bool false), .is (.bool false)] (by kernel_rfl) rfl (by kernel_rfl) (by kernel_rfl) (.cons ?b0 (.cons ?b1 (.cons ?b2 (.cons ?b3 (.cons ?b4 (.cons ?b5 (.cons ?b6 (.cons ?b7 (.cons ?b8 (.cons ?b9 (.cons ?b10 (.cons ?b11 (.cons ?b12 (.cons ?b13 (.cons ?b14 (.cons ?b15 (.cons ?b16 (.cons ?b17 .nil)))))))))))))))))) ?bfin
                  case b0 =>
                    intro wq hbw st  K hK
                    simp only [Act.put, List.setIfInBounds_toArray, List.set_cons_zero, List.set_cons_succ] at hK ⊢
                    unfold opStep
                    rw [if_pos (by rfl)]
                    go_simp
                    exact hK.out _ _ (Below.refl _ _) rfl _ rfl
                  case b1 =>
                    intro wq hbw st  K hK
                    simp only [Act.put, List.setIfInBounds_toArray, List.set_cons_zero, List.set_cons_succ] at hK ⊢
                    unfold opStep
                    rw [if_pos (by rfl)]
                    go_simp
                    exact hK.out _ _ (Below.refl _ _) rfl _ rfl
                  case b2 =>
                    intro wq hbw st  K hK
                    simp only [Act.put, List.setIfInBounds_toArray, List.set_cons_zero, List.set_cons_succ] at hK ⊢
                    unfold opStep
                    rw [if_pos (by rfl)]
                    go_simp
                    exact hK.out _ _ (Below.refl _ _) rfl _ rfl
                  case b3 =>
                    intro wq hbw st  K hK
                    simp only [Act.put, List.setIfInBounds_toArray, List.set_cons_zero, List.set_cons_succ] at hK ⊢
                    unfold opStep
                    rw [if_pos (by rfl)]
                    have d0 := HIC.out wq hbw
                    unfold nv at d0
                    go_simp
                    exact hK.out _ _ (Below.refl _ _) rfl _ rfl
                  case b4 =>
                    intro wq hbw st  K hK
                    simp only [Act.put, List.setIfInBounds_toArray, List.set_cons_zero, List.set_cons_succ] at hK ⊢
                    unfold opStep
                    rw [if_pos (by rfl)]
                    go_simp
                    exact hK.out _ _ (Below.refl _ _) rfl _ rfl
                  case b5 =>
                    intro wq hbw st  K hK
                    simp only [Act.put, List.setIfInBounds_toArray, List.set_cons_zero, List.set_cons_succ] at hK ⊢
                    unfold opStep
                    rw [if_pos (by rfl)]
                    go_simp
                    exact hK.out _ _ (Below.refl _ _) rfl _ rfl
                  case b6 =>
                    intro wq hbw st  K hK
                    simp only [Act.put, List.setIfInBounds_toArray, List.set_cons_zero, List.set_cons_succ] at hK ⊢
                    unfold opStep
                    rw [if_pos (by rfl)]
                    go_simp
                    exact hK.out _ _ (Below.refl _ _) rfl _ rfl
                  case b7 =>
                    intro wq hbw st  K hK
                    simp only [Act.put, List.setIfInBounds_toArray, List.set_cons_zero, List.set_cons_succ] at hK ⊢
                    unfold opStep
                    rw [if_pos (by rfl)]
                    go_simp
                    exact hK.out _ _ (Below.refl _ _) rfl _ rfl
                  case b8 =>
                    intro wq hbw st  K hK
                    simp only [Act.put, List.setIfInBounds_toArray, List.set_cons_zero, List.set_cons_succ] at hK ⊢
                    unfold opStep
                    rw [if_pos (by rfl)]
                    go_simp
                    exact hK.out _ _ (Below.refl _ _) rfl _ rfl
                  case b9 =>
                    intro wq hbw st  K hK
                    simp only [Act.put, List.setIfInBounds_toArray, List.set_cons_zero, List.set_cons_succ] at hK ⊢
                    unfold opStep
                    rw [if_pos (by rfl)]
                    have d0 := HIC.out wq hbw
                    unfold nv at d0
                    go_simp
                    exact hK.out _ _ (Below.refl _ _) rfl _ rfl
                  case b10 =>
                    intro wq hbw st  K hK
                    simp only [Act.put, List.setIfInBounds_toArray, List.set_cons_zero, List.set_cons_succ] at hK ⊢
                    unfold opStep
                    rw [if_pos (by rfl)]
                    go_simp
                    exact hK.out _ _ (Below.refl _ _) rfl _ rfl
                  case b11 =>
                    intro wq hbw st  K hK
                    simp only [Act.put, List.setIfInBounds_toArray, List.set_cons_zero, List.set_cons_succ] at hK ⊢
                    unfold opStep
                    rw [if_pos (by rfl)]
                    go_simp
                    exact hK.out _ _ (Below.refl _ _) rfl _ rfl
                  case b12 =>
                    intro wq hbw st  K hK
                    simp only [Act.put, List.setIfInBounds_toArray, List.set_cons_zero, List.set_cons_succ] at hK ⊢
                    unfold opStep
                    rw [if_pos (by rfl)]
                    go_simp
                    exact hK.out _ _ (Below.refl _ _) rfl _ rfl
                  case b13 =>
                    intro wq hbw st  K hK
                    simp only [Act.put, List.setIfInBounds_toArray, List.set_cons_zero, List.set_cons_succ] at hK ⊢
                    unfold opStep
                    rw [if_pos (by rfl)]
                    go_simp
                    exact hK.out _ _ (Below.refl _ _) rfl _ rfl
                  case b14 =>
                    intro wq hbw st  K hK
                    simp only [Act.put, List.setIfInBounds_toArray, List.set_cons_zero, List.set_cons_succ] at hK ⊢
                    unfold opStep
                    rw [if_pos (by rfl)]
                    have d0 := HC7.out wq hbw
                    go_simp
                    exact hK.out _ _ (Below.refl _ _) rfl _ rfl
                  case b15 =>
                    intro wq hbw st  K hK
                    simp only [Act.put, List.setIfInBounds_toArray, List.set_cons_zero, List.set_cons_succ] at hK ⊢
                    unfold opStep
                    rw [if_pos (by rfl)]
                    go_simp
                    exact hK.out _ _ (Below.refl _ _) rfl _ rfl
                  case b16 =>
                    intro wq hbw st  K hK
                    simp only [Act.put, List.setIfInBounds_toArray, List.set_cons_zero, List.set_cons_succ] at hK ⊢
                    unfold opStep
                    rw [if_pos (by rfl)]
                    go_simp
                    exact hK.out _ _ (Below.refl _ _) rfl _ rfl
                  case b17 =>
                    intro wq hbw st  K hK
                    simp only [Act.put, List.setIfInBounds_toArray, List.set_cons_zero, List.set_cons_succ] at hK ⊢
                    unfold opStep
                    rw [if_pos (by rfl)]
                    go_simp
                    exact hK.out _ _ (Below.refl _ _) rfl _ rfl
                  case bfin =>
                    intro wq hbw
                    try simp only [FinAll]
                    simp only [Act.put, List.setIfInBounds_toArray, List.set_cons_zero, List.set_cons_succ]
                    have K8 := Lib.hid (K7.out.trans (hbw.mono K7.out.size))
                    have KG8 := Lib.hid (KG7.out.trans (hbw.mono KG7.out.size))
                    have HC8 := Lib.hid (fun wz (hz : Below wq.heap.size wq wz) => HC7.out wz (hbw.trans (hz.mono hbw.size)))
                    have HX8 := Lib.hid (fun wz (hz : Below wq.heap.size wq wz) => HX7.out wz (hbw.trans (hz.mono hbw.size)))
                    have HZ8 := Lib.hid (fun wz (hz : Below wq.heap.size wq wz) => HZ7.out wz (hbw.trans (hz.mono hbw.size)))
                    have HI8 := Lib.hid (fun wz (hz : Below wq.heap.size wq wz) => HIC.out wz (hbw.trans (hz.mono hbw.size)))
                    have HY8 := Lib.hid (HY7.out.on hbw)
                    clear hbw K7 KG7 HC7 HX7 HZ7 HIC HY7
                    rename World => w8
                    have HB0 : Hid (Below w8.heap.size w8 (w8.alloc (.cells #[] 29))) := Lib.hid ((Below.refl _ _).alloc (Nat.le_refl _) _)
                    have c0 := HC8.out _ HB0.out
                    go_wp2_with (at_builtin; refine append_evw (B := w8.heap.size) (w0 := w8) (W1 := w3) rfl _ _ rfl _ _ [] y rfl (OwnE.made (EvW w3) (Nat.le_refl _) (Nat.le_refl _) (Below.refl _ _)) rfl (HY8.out.on HB0.out) (by simp; omega) ?_)
                    intro v9 w9 h9 hk9
                    clear c0 hk9 HB0
                    try rw [List.nil_append] at h9
                    obtain ⟨o9, c9, rfl⟩ := h9.slc
                    obtain ⟨gn, e9, -, hgB, hnx⟩ := NxE.of_own h9 (by have := HQL.out.1; omega)
                    subst e9
                    have KB9 := Lib.hid h9.1.2.2
                    have HNX := Lib.hid hnx
                    have HGB := Lib.hid hgB
                    clear h9 hnx hgB
                    have HON := Lib.hid (fun wq (hq : Below w8.heap.size w9 wq) => KB9.out.trans hq)
                    go_upto_region 20 with fail
                    have HLAST : Hid (∀ wq, NxE w3 gn c9 (y.set q z) wq → NxE w3 gn c9 (swpE y q) (wq.setCells gn (q1 * 2) (#[.int .i64 x.1, .slice s1 x.2.length c1] : Array Value).toList)) := Lib.hid (fun wq h => by
                      have h1 := h.put (q := q1) (e := x) (s := s1) (d := c1) (by rw [List.length_set]; exact HQL.out.2.1) HR2.out.1
                      have e : (y.set q z).set q1 x = swpE y q := HSEQ.out
                      rwa [e] at h1)
                    refine region_inv w8.heap.size (JT 33 35 (fun w => NxE w3 gn c9 y w) (fun w => NxE w3 gn c9 (y.set q z) w) (fun w => NxE w3 gn c9 (swpE y q) w)) [some (.slice (some ⟨gn, 0, none⟩) y.length c9), some (.slice (some ⟨gi, 0, none⟩) AT.length ic), some (.int .i64 (k : Int)), some (.pointer (some ⟨gi, k, none⟩)), some (.int .i64 (q : Int)), some (.slice (some ⟨gn, 0, none⟩) y.length c9), some (.slice (some ⟨gi, 0, none⟩) AT.length ic), some (.int .i64 (k : Int)), some (.pointer (some ⟨gi, k, none⟩)), some (.int .i64 (q : Int)), some (.int .i64 (q1 : Int)), some (.slice (some ⟨ga, 0, none⟩) LL.length lc), some (.int .i64 (i : Int)), some (.pointer (some ⟨ga, i, none⟩)), some (.slice (some ⟨b1, o1, none⟩) y.length uc), some (.slice (some ⟨gi, 0, none⟩) AT.length ic), some (.int .i64 (k : Int)), some (.pointer (some ⟨gi, k, none⟩)), some (.int .i64 (q : Int)), some (.int .i64 (q1 : Int)), some (.pointer (some ⟨b1, o1 + q1 * 2, none⟩)), some (.agg #[.int .i64 z.1, .slice s2 z.2.length c2]), some (.slice (some ⟨ga, 0, none⟩) LL.length lc), some (.int .i64 (i : Int)), some (.pointer (some ⟨ga, i, none⟩)), some (.slice (some ⟨b1, o1, none⟩) y.length uc), some (.slice (some ⟨gi, 0, none⟩) AT.length ic), some (.int .i64 (k : Int)), some (.pointer (some ⟨gi, k, none⟩)), some (.int .i64 (q : Int)), some (.pointer (some ⟨b1, o1 + q * 2, none⟩)), some (.agg #[.int .i64 x.1, .slice s1 x.2.length c1]), some (.pointer (some ⟨gn, q * 2, none⟩)), none, some (.pointer (some ⟨gn, q1 * 2, none⟩)), none] (by kernel_rfl) rfl (by kernel_rfl) (by kernel_rfl) (JT.start HNX.out.drew) (.cons ?z0 (.cons ?z1 (.cons ?z2 (.cons ?z3 (.cons ?z4 (.cons ?z5 (.cons ?z6 (.cons ?z7 (.cons ?z8 (.cons ?z9 (.cons ?z10 (.cons ?z11 (.cons ?z12 (.cons ?z13 (.cons ?z14 (.cons ?z15 (.cons ?z16 (.cons ?z17 (.cons ?z18 (.cons ?z19 (.cons ?z20 (.cons ?z21 (.cons ?z22 (.cons ?z23 (.cons ?z24 (.cons ?z25 (.cons ?z26 (.cons ?z27 (.cons ?z28 (.cons ?z29 (.cons ?z30 (.cons ?z31 (.cons ?z32 (.cons ?z33 (.cons ?z34 (.cons ?z35 .nil)))))))))))))))))))))))))))))))))))) ?zfin
                    case z0 =>
                      intro wq hbw D st hJ hD hdp K hK
                      simp only [Act.put, List.setIfInBounds_toArray, List.set_cons_zero, List.set_cons_succ] at hK ⊢
                      unfold opStep
                      rw [if_pos (by rfl)]
                      go_simp
                      exact hK.out _ _ (Below.refl _ _) (fun u hu => Option.some.inj hu) (hJ.pure 0 _ (by decide) (by decide)) _ rfl
                    case z1 =>
                      intro wq hbw D st hJ hD hdp K hK
                      simp only [Act.put, List.setIfInBounds_toArray, List.set_cons_zero, List.set_cons_succ] at hK ⊢
                      unfold opStep
                      rw [if_pos (by rfl)]
                      go_simp
                      exact hK.out _ _ (Below.refl _ _) (fun u hu => Option.some.inj hu) (hJ.pure 1 _ (by decide) (by decide)) _ rfl
                    case z2 =>
                      intro wq hbw D st hJ hD hdp K hK
                      simp only [Act.put, List.setIfInBounds_toArray, List.set_cons_zero, List.set_cons_succ] at hK ⊢
                      unfold opStep
                      rw [if_pos (by rfl)]
                      go_simp
                      exact hK.out _ _ (Below.refl _ _) (fun u hu => Option.some.inj hu) (hJ.pure 2 _ (by decide) (by decide)) _ rfl
                    case z3 =>
                      intro wq hbw D st hJ hD hdp K hK
                      simp only [Act.put, List.setIfInBounds_toArray, List.set_cons_zero, List.set_cons_succ] at hK ⊢
                      unfold opStep
                      rw [if_pos (by rfl)]
                      go_simp
                      exact hK.out _ _ (Below.refl _ _) (fun u hu => Option.some.inj hu) (hJ.pure 3 _ (by decide) (by decide)) _ rfl
                    case z4 =>
                      intro wq hbw D st hJ hD hdp K hK
                      simp only [Act.put, List.setIfInBounds_toArray, List.set_cons_zero, List.set_cons_succ] at hK ⊢
                      unfold opStep
                      rw [if_pos (by rfl)]
                      have d0 := HI8.out wq (HON.out wq hbw)
                      unfold nv at d0
                      go_simp
                      exact hK.out _ _ (Below.refl _ _) (fun u hu => Option.some.inj hu) (hJ.pure 4 _ (by decide) (by decide)) _ rfl
                    case z5 =>
                      intro wq hbw D st hJ hD hdp K hK
                      simp only [Act.put, List.setIfInBounds_toArray, List.set_cons_zero, List.set_cons_succ] at hK ⊢
                      unfold opStep
                      rw [if_pos (by rfl)]
                      go_simp
                      exact hK.out _ _ (Below.refl _ _) (fun u hu => Option.some.inj hu) (hJ.pure 5 _ (by decide) (by decide)) _ rfl
                    case z6 =>
                      intro wq hbw D st hJ hD hdp K hK
                      simp only [Act.put, List.setIfInBounds_toArray, List.set_cons_zero, List.set_cons_succ] at hK ⊢
                      unfold opStep
                      rw [if_pos (by rfl)]
                      go_simp
                      exact hK.out _ _ (Below.refl _ _) (fun u hu => Option.some.inj hu) (hJ.pure 6 _ (by decide) (by decide)) _ rfl
                    case z7 =>
                      intro wq hbw D st hJ hD hdp K hK
                      simp only [Act.put, List.setIfInBounds_toArray, List.set_cons_zero, List.set_cons_succ] at hK ⊢
                      unfold opStep
                      rw [if_pos (by rfl)]
                      go_simp
                      exact hK.out _ _ (Below.refl _ _) (fun u hu => Option.some.inj hu) (hJ.pure 7 _ (by decide) (by decide)) _ rfl
                    case z8 =>
                      intro wq hbw D st hJ hD hdp K hK
                      simp only [Act.put, List.setIfInBounds_toArray, List.set_cons_zero, List.set_cons_succ] at hK ⊢
                      unfold opStep
                      rw [if_pos (by rfl)]
                      go_simp
                      exact hK.out _ _ (Below.refl _ _) (fun u hu => Option.some.inj hu) (hJ.pure 8 _ (by decide) (by decide)) _ rfl
                    case z9 =>
                      intro wq hbw D st hJ hD hdp K hK
                      simp only [Act.put, List.setIfInBounds_toArray, List.set_cons_zero, List.set_cons_succ] at hK ⊢
                      unfold opStep
                      rw [if_pos (by rfl)]
                      have d0 := HI8.out wq (HON.out wq hbw)
                      unfold nv at d0
                      go_simp
                      exact hK.out _ _ (Below.refl _ _) (fun u hu => Option.some.inj hu) (hJ.pure 9 _ (by decide) (by decide)) _ rfl
                    case z10 =>
                      intro wq hbw D st hJ hD hdp K hK
                      simp only [Act.put, List.setIfInBounds_toArray, List.set_cons_zero, List.set_cons_succ] at hK ⊢
                      unfold opStep
                      rw [if_pos (by rfl)]
                      go_simp
                      exact hK.out _ _ (Below.refl _ _) (fun u hu => Option.some.inj hu) (hJ.pure 10 _ (by decide) (by decide)) _ rfl
                    case z11 =>
                      intro wq hbw D st hJ hD hdp K hK
                      simp only [Act.put, List.setIfInBounds_toArray, List.set_cons_zero, List.set_cons_succ] at hK ⊢
                      unfold opStep
                      rw [if_pos (by rfl)]
                      go_simp
                      exact hK.out _ _ (Below.refl _ _) (fun u hu => Option.some.inj hu) (hJ.pure 11 _ (by decide) (by decide)) _ rfl
                    case z12 =>
                      intro wq hbw D st hJ hD hdp K hK
                      simp only [Act.put, List.setIfInBounds_toArray, List.set_cons_zero, List.set_cons_succ] at hK ⊢
                      unfold opStep
                      rw [if_pos (by rfl)]
                      go_simp
                      exact hK.out _ _ (Below.refl _ _) (fun u hu => Option.some.inj hu) (hJ.pure 12 _ (by decide) (by decide)) _ rfl
                    case z13 =>
                      intro wq hbw D st hJ hD hdp K hK
                      simp only [Act.put, List.setIfInBounds_toArray, List.set_cons_zero, List.set_cons_succ] at hK ⊢
                      unfold opStep
                      rw [if_pos (by rfl)]
                      go_simp
                      exact hK.out _ _ (Below.refl _ _) (fun u hu => Option.some.inj hu) (hJ.pure 13 _ (by decide) (by decide)) _ rfl
                    case z14 =>
                      intro wq hbw D st hJ hD hdp K hK
                      simp only [Act.put, List.setIfInBounds_toArray, List.set_cons_zero, List.set_cons_succ] at hK ⊢
                      unfold opStep
                      rw [if_pos (by rfl)]
                      have d0 := HC8.out wq (HON.out wq hbw)
                      go_simp
                      exact hK.out _ _ (Below.refl _ _) (fun u hu => Option.some.inj hu) (hJ.pure 14 _ (by decide) (by decide)) _ rfl
                    case z15 =>
                      intro wq hbw D st hJ hD hdp K hK
                      simp only [Act.put, List.setIfInBounds_toArray, List.set_cons_zero, List.set_cons_succ] at hK ⊢
                      unfold opStep
                      rw [if_pos (by rfl)]
                      go_simp
                      exact hK.out _ _ (Below.refl _ _) (fun u hu => Option.some.inj hu) (hJ.pure 15 _ (by decide) (by decide)) _ rfl
                    case z16 =>
                      intro wq hbw D st hJ hD hdp K hK
                      simp only [Act.put, List.setIfInBounds_toArray, List.set_cons_zero, List.set_cons_succ] at hK ⊢
                      unfold opStep
                      rw [if_pos (by rfl)]
                      go_simp
                      exact hK.out _ _ (Below.refl _ _) (fun u hu => Option.some.inj hu) (hJ.pure 16 _ (by decide) (by decide)) _ rfl
                    case z17 =>
                      intro wq hbw D st hJ hD hdp K hK
                      simp only [Act.put, List.setIfInBounds_toArray, List.set_cons_zero, List.set_cons_succ] at hK ⊢
                      unfold opStep
                      rw [if_pos (by rfl)]
                      go_simp
                      exact hK.out _ _ (Below.refl _ _) (fun u hu => Option.some.inj hu) (hJ.pure 17 _ (by decide) (by decide)) _ rfl
                    case z18 =>
                      intro wq hbw D st hJ hD hdp K hK
                      simp only [Act.put, List.setIfInBounds_toArray, List.set_cons_zero, List.set_cons_succ] at hK ⊢
                      unfold opStep
                      rw [if_pos (by rfl)]
                      have d0 := HI8.out wq (HON.out wq hbw)
                      unfold nv at d0
                      go_simp
                      exact hK.out _ _ (Below.refl _ _) (fun u hu => Option.some.inj hu) (hJ.pure 18 _ (by decide) (by decide)) _ rfl
                    case z19 =>
                      intro wq hbw D st hJ hD hdp K hK
                      simp only [Act.put, List.setIfInBounds_toArray, List.set_cons_zero, List.set_cons_succ] at hK ⊢
                      unfold opStep
                      rw [if_pos (by rfl)]
                      go_simp
                      exact hK.out _ _ (Below.refl _ _) (fun u hu => Option.some.inj hu) (hJ.pure 19 _ (by decide) (by decide)) _ rfl
                    case z20 =>
                      intro wq hbw D st hJ hD hdp K hK
                      simp only [Act.put, List.setIfInBounds_toArray, List.set_cons_zero, List.set_cons_succ] at hK ⊢
                      unfold opStep
                      rw [if_pos (by rfl)]
                      go_simp
                      exact hK.out _ _ (Below.refl _ _) (fun u hu => Option.some.inj hu) (hJ.pure 20 _ (by decide) (by decide)) _ rfl
                    case z21 =>
                      intro wq hbw D st hJ hD hdp K hK
                      simp only [Act.put, List.setIfInBounds_toArray, List.set_cons_zero, List.set_cons_succ] at hK ⊢
                      unfold opStep
                      rw [if_pos (by rfl)]
                      have dd := Lib.hid (HZ8.out wq (HON.out wq hbw))
                      have d0 := dd.out.1
                      have d1 := dd.out.2
                      go_simp
                      exact hK.out _ _ (Below.refl _ _) (fun u hu => Option.some.inj hu) (hJ.pure 21 _ (by decide) (by decide)) _ rfl
                    case z22 =>
                      intro wq hbw D st hJ hD hdp K hK
                      simp only [Act.put, List.setIfInBounds_toArray, List.set_cons_zero, List.set_cons_succ] at hK ⊢
                      unfold opStep
                      rw [if_pos (by rfl)]
                      go_simp
                      exact hK.out _ _ (Below.refl _ _) (fun u hu => Option.some.inj hu) (hJ.pure 22 _ (by decide) (by decide)) _ rfl
                    case z23 =>
                      intro wq hbw D st hJ hD hdp K hK
                      simp only [Act.put, List.setIfInBounds_toArray, List.set_cons_zero, List.set_cons_succ] at hK ⊢
                      unfold opStep
                      rw [if_pos (by rfl)]
                      go_simp
                      exact hK.out _ _ (Below.refl _ _) (fun u hu => Option.some.inj hu) (hJ.pure 23 _ (by decide) (by decide)) _ rfl
                    case z24 =>
                      intro wq hbw D st hJ hD hdp K hK
                      simp only [Act.put, List.setIfInBounds_toArray, List.set_cons_zero, List.set_cons_succ] at hK ⊢
                      unfold opStep
                      rw [if_pos (by rfl)]
                      go_simp
                      exact hK.out _ _ (Below.refl _ _) (fun u hu => Option.some.inj hu) (hJ.pure 24 _ (by decide) (by decide)) _ rfl
                    case z25 =>
                      intro wq hbw D st hJ hD hdp K hK
                      simp only [Act.put, List.setIfInBounds_toArray, List.set_cons_zero, List.set_cons_succ] at hK ⊢
                      unfold opStep
                      rw [if_pos (by rfl)]
                      have d0 := HC8.out wq (HON.out wq hbw)
                      go_simp
                      exact hK.out _ _ (Below.refl _ _) (fun u hu => Option.some.inj hu) (hJ.pure 25 _ (by decide) (by decide)) _ rfl
                    case z26 =>
                      intro wq hbw D st hJ hD hdp K hK
                      simp only [Act.put, List.setIfInBounds_toArray, List.set_cons_zero, List.set_cons_succ] at hK ⊢
                      unfold opStep
                      rw [if_pos (by rfl)]
                      go_simp
                      exact hK.out _ _ (Below.refl _ _) (fun u hu => Option.some.inj hu) (hJ.pure 26 _ (by decide) (by decide)) _ rfl
                    case z27 =>
                      intro wq hbw D st hJ hD hdp K hK
                      simp only [Act.put, List.setIfInBounds_toArray, List.set_cons_zero, List.set_cons_succ] at hK ⊢
                      unfold opStep
                      rw [if_pos (by rfl)]
                      go_simp
                      exact hK.out _ _ (Below.refl _ _) (fun u hu => Option.some.inj hu) (hJ.pure 27 _ (by decide) (by decide)) _ rfl
                    case z28 =>
                      intro wq hbw D st hJ hD hdp K hK
                      simp only [Act.put, List.setIfInBounds_toArray, List.set_cons_zero, List.set_cons_succ] at hK ⊢
                      unfold opStep
                      rw [if_pos (by rfl)]
                      go_simp
                      exact hK.out _ _ (Below.refl _ _) (fun u hu => Option.some.inj hu) (hJ.pure 28 _ (by decide) (by decide)) _ rfl
                    case z29 =>
                      intro wq hbw D st hJ hD hdp K hK
                      simp only [Act.put, List.setIfInBounds_toArray, List.set_cons_zero, List.set_cons_succ] at hK ⊢
                      unfold opStep
                      rw [if_pos (by rfl)]
                      have d0 := HI8.out wq (HON.out wq hbw)
                      unfold nv at d0
                      go_simp
                      exact hK.out _ _ (Below.refl _ _) (fun u hu => Option.some.inj hu) (hJ.pure 29 _ (by decide) (by decide)) _ rfl
                    case z30 =>
                      intro wq hbw D st hJ hD hdp K hK
                      simp only [Act.put, List.setIfInBounds_toArray, List.set_cons_zero, List.set_cons_succ] at hK ⊢
                      unfold opStep
                      rw [if_pos (by rfl)]
                      go_simp
                      exact hK.out _ _ (Below.refl _ _) (fun u hu => Option.some.inj hu) (hJ.pure 30 _ (by decide) (by decide)) _ rfl
                    case z31 =>
                      intro wq hbw D st hJ hD hdp K hK
                      simp only [Act.put, List.setIfInBounds_toArray, List.set_cons_zero, List.set_cons_succ] at hK ⊢
                      unfold opStep
                      rw [if_pos (by rfl)]
                      have dd := Lib.hid (HX8.out wq (HON.out wq hbw))
                      have d0 := dd.out.1
                      have d1 := dd.out.2
                      go_simp
                      exact hK.out _ _ (Below.refl _ _) (fun u hu => Option.some.inj hu) (hJ.pure 31 _ (by decide) (by decide)) _ rfl
                    case z32 =>
                      intro wq hbw D st hJ hD hdp K hK
                      simp only [Act.put, List.setIfInBounds_toArray, List.set_cons_zero, List.set_cons_succ] at hK ⊢
                      unfold opStep
                      rw [if_pos (by rfl)]
                      go_simp
                      exact hK.out _ _ (Below.refl _ _) (fun u hu => Option.some.inj hu) (hJ.pure 32 _ (by decide) (by decide)) _ rfl
                    case z33 =>
                      intro wq hbw D st hJ hD hdp K hK
                      simp only [Act.put, List.setIfInBounds_toArray, List.set_cons_zero, List.set_cons_succ] at hK ⊢
                      unfold opStep
                      rw [if_pos (by rfl)]
                      have hA := hJ.atA hD
                      refine wp_store_mid 29 (.tmp 132) (.tmp 121) (by rfl) gn (q * 2) #[.int .i64 z.1, .slice s2 z.2.length c2] (by rfl) (by rfl) (hA.there HQL.out.1 _ rfl) ev_info (one2 _ _ _ _) ?_
                      exact hK.out _ _ (below_put HGB.out _) (fun u hu => by cases hu) (hJ.s1 hD (by decide) (hA.put HQL.out.1 HR2.out.2) undef) _ rfl
                    case z34 =>
                      intro wq hbw D st hJ hD hdp K hK
                      simp only [Act.put, List.setIfInBounds_toArray, List.set_cons_zero, List.set_cons_succ] at hK ⊢
                      unfold opStep
                      rw [if_pos (by rfl)]
                      go_simp
                      exact hK.out _ _ (Below.refl _ _) (fun u hu => Option.some.inj hu) (hJ.pure 34 _ (by decide) (by decide)) _ rfl
                    case z35 =>
                      intro wq hbw D st hJ hD hdp K hK
                      simp only [Act.put, List.setIfInBounds_toArray, List.set_cons_zero, List.set_cons_succ] at hK ⊢
                      unfold opStep
                      rw [if_pos (by rfl)]
                      have d33 := hdp 33 (of_decide_eq_true (by kernel_rfl))
                      have hA := hJ.atB d33 hD
                      refine wp_store_mid 29 (.tmp 133) (.tmp 131) (by rfl) gn (q1 * 2) #[.int .i64 x.1, .slice s1 x.2.length c1] (by rfl) (by rfl) (hA.there (by rw [List.length_set]; exact HQL.out.2.1) _ rfl) ev_info (one2 _ _ _ _) ?_
                      exact hK.out _ _ (below_put HGB.out _) (fun u hu => by cases hu) (hJ.s2 d33 (by decide) (HLAST.out wq hA) undef) _ rfl
                    case zfin =>
                      intro wq hbw D st hall hJ
                      simp only [FinAll, lfOf]
                      simp only [Act.put, List.setIfInBounds_toArray, List.set_cons_zero, List.set_cons_succ]
                      have HN9 := Lib.hid (hJ.fin (hall 35 (by decide)))
                      have KG9 := Lib.hid (KG8.out.trans ((KB9.out.trans hbw).mono KG8.out.size))
                      have K9 := Lib.hid (K8.out.trans ((KB9.out.trans hbw).mono K8.out.size))
                      clear hJ hall hbw HLAST HNX HON HC8 HX8 HZ8 HI8 HY8 K8 KG8 HGB KB9 HSWP
                      generalize st 33 = x33
                      generalize st 35 = x35
                      have HNL : Hid ((swpE y q).length = y.length) := Lib.hid (swpE_len y q)
                      generalize swpE y q = nx at *
                      have HNR : Hid (ReadsE wq (.slice (some ⟨gn, 0, none⟩) y.length c9) nx) := Lib.hid (by rw [← HNL.out]; exact HN9.out.reads.toE KG9.out)
                      clear HN9
                      go_wp2
                      obtain ⟨G2, hG2⟩ : ∃ G, G = gk := ⟨_, rfl⟩
                      subst hG2
                      go_loopg [8, 9] LL.length (fun m f mx wr => ∃ p : Nat, m + p = LL.length ∧ mx = .int .i64 p ∧ f = .bool ((LL.take p).any fun u => decide (u = nx)) ∧ Below wq.heap.size wq wr)
                      case atStart => exact ⟨0, by omega, rfl, by simp, Below.refl _ _⟩
                      case round =>
                        rename World => w10
                        obtain ⟨p, hmp, rfl, rfl, hb10⟩ := hrel
                        have HM3 := Lib.hid hmp
                        have K10 := Lib.hid (K9.out.trans (hb10.mono K9.out.size))
                        have KG10 := Lib.hid (KG9.out.trans (hb10.mono KG9.out.size))
                        have KN10 := Lib.hid hb10
                        have hp : p ≤ LL.length := by omega
                        have hp0 : (0 : Int) ≤ (p : Int) := by omega
                        have HANY := Lib.hid (@anyT_succ (fun u => decide (u = nx)) LL p)
                        have HALL : Hid (p = LL.length → ((LL.take p).any fun u => decide (u = nx)) = true) := Lib.hid fun h => by rw [h, List.take_length, anyT_mem]; exact decide_eq_true HSN.out
                        generalize ((LL.take p).any fun u => decide (u = nx)) = f at *
                        clear hmp hb10
                        cases f with
                        | true =>
                          by_cases hpl : p < LL.length
                          · have hpi : (p : Int) < LL.length := by omega
                            clear hpl
                            go_wp2
                            go_roundg (AT.length - (k + 1))
                            case measure => have := HM2.out; have := HKL.out.1; omega
                            case rel => exact ⟨k + 1, by have := HKL.out.1; omega, by go_num, K10.out⟩
                          · have hpi : ¬ (p : Int) < LL.length := by omega
                            clear hpl
                            go_wp2
                            go_roundg (AT.length - (k + 1))
                            case measure => have := HM2.out; have := HKL.out.1; omega
                            case rel => exact ⟨k + 1, by have := HKL.out.1; omega, by go_num, K10.out⟩
                        | false =>
                          have hpl : p < LL.length := by
                            by_cases h : p < LL.length
                            · exact h
                            · have := HALL.out (by omega); cases this
                          have hpi : (p : Int) < LL.length := by omega
                          have HPL := Lib.hid (And.intro hpl trivial)
                          have HAN := Lib.hid (HANY.out hpl)
                          obtain ⟨ma, mc, hmcell, hmrd⟩ := RowsF.cell HG.out hpl
                          have c0 := hmcell w10 KG10.out
                          have HZ := Lib.hid (hmrd.on KG10.out)
                          generalize LL[p] = zz at *
                          clear hpl hmcell hmrd HANY HALL
                          go_wp2_with fail
                          refine (rstr_any _ _ zz nx w10 HZ.out (HNR.out.on KN10.out)).mono ?_
                          rintro e w11 ⟨rfl, hb11⟩
                          have K11 := Lib.hid (KN10.out.trans (hb11.mono KN10.out.size))
                          clear hb11 HZ c0
                          try simp only [] at HAN
                          generalize decide (zz = nx) = d at *
                          go_wp2
                          go_roundg (LL.length - (p + 1))
                          case measure => have := HM3.out; have := HPL.out.1; omega
                          case rel => exact ⟨p + 1, by have := HPL.out.1; omega, by go_num, by rw [HAN.out, Bool.false_or], K11.out⟩
                · have hki : ¬ (k : Int) < AT.length := by omega
                  go_wp2
                  go_roundg (LL.length - (i + 1))
                  case measure => have := HM.out; have := HIL.out.1; omega
                  case rel => exact ⟨i + 1, by have := HIL.out.1; omega, by go_num, KG7.out⟩
        · have hii : ¬ (i : Int) < LL.length := by omega
          have KF := Lib.hid (KW.out.trans (K4'.out.mono KW.out.size))
          go_wp2
          go_ret
          exact ⟨rfl, KF.out⟩

set_option maxRecDepth 100000 in
theorem lifted (os : Os) (started : os.Started) (H : Type) (enc : TypeId × Value → H) :
    ReturnsInHanded {} Try.checked os 7 .any (Rows.scheduleEachSpec.pre6 enc Try.prog Try.f7 Rows.scheduleEachRow.domain false) (Rows.scheduleEachSpec.post enc Try.prog Try.f7 false true false false) := by
  refine returnsInHanded_of_change (C := Try.checked) own started (by kernel_rfl) Try.func7
    (ChangeSpec.witness6 (enc := enc) (C := Try.checked) false ⟨#[], #[.slice none 0 0], []⟩ 8 (by kernel_rfl) (by kernel_rfl) (by kernel_rfl) (by kernel_rfl)) ?_
  intro W base args ds gs before hval0 hW hcnd _
  have hval : ∀ (j : Nat) t v, Try.f7.params[j]? = some t → args[j]? = some v → Value.okWide Try.prog W .any base t v := hval0
  have hW' := hW
  obtain ⟨p, q, hA0, hV, rfl, hfz, hnd⟩ := hW
  have hA : DataW.TrodAll enc Try.prog W 0 (fun _ => true) true Try.f7.params.toList args.toList ds p := hA0
  rw [Try.params7] at hA hval
  obtain ⟨v0, vs0, d0, ds0, p0, q0, hargs, rfl, rfl, t0, r0⟩ := trodAll_cons hA
  obtain ⟨rfl, rfl, rfl⟩ := trodAll_nil r0
  obtain rfl : args = #[v0] := by cases args; simp_all
  obtain ⟨rfl, rfl⟩ := trodVars_none hV
  obtain ⟨x0, h0⟩ := open_tr (hval 0 22 v0 rfl rfl) t0
  refine (walk v0 x0 W h0).mono fun e W' ⟨he, hb⟩ => ?_
  subst he
  exact ⟨_, rfl, law_post laidOut rfl (fun _ _ => rfl) (by kernel_rfl) Try.underlying4 (by rw [Try.params7]; exact fun t ht => by simp at ht; rcases ht with  rfl ; all_goals exact ⟨by kernel_rfl, of_decide_eq_true (by kernel_rfl)⟩) hW' hb⟩

theorem over : Rows.scheduleEachRow.holds Try.pinned (OpenSpec.ofChange Rows.scheduleEachSpec) :=
  OpenClaim.holds_of_wide 7 Try.f7 rfl rfl rfl rfl rfl rfl rfl ⟨rfl, rfl, rfl, rfl, rfl⟩ rfl rfl rfl rfl rfl (by kernel_rfl) Try.func7 (by kernel_rfl)
    (of_decide_eq_true (by kernel_rfl)) (by unfold Func.isWrapper; first | (rw [if_pos (by decide +kernel)]; kernel_rfl) | (rw [if_neg (by decide +kernel)]; exact ⟨rfl, rfl⟩))
    (fun os started H enc _ => lifted os started H enc)

theorem proved : Rows.ScheduleEachSaid := over
end Go.Proofs.Ytfdicndmebhmdaa.scheduleEach
