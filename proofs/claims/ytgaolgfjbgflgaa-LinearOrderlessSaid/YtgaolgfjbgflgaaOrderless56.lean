/-
  LinearOrderless: for all histories the law returns true, and what came in reads behind the call as before. No condition.
-/
import Derived.Test.YtgaolgfjbgflgaaLt
import Derived.Test.YtgaolgfjbgflgaaOo
import Derived.Test.YtgaolgfjbgflgaaJc
import Derived.Test.YtgaolgfjbgflgaaHq
import Derived.Deep.DeepCutAuto
namespace Go.Proofs.Ytgaolgfjbgflgaa.linearOrderless
open Go.ChangeShapes Go.WideShapes Go.ChangeAt Go.RowKit

theorem wrap_eight {n : Nat} (hn : n ≤ 8) : IntKind.i64.wrap (n : Int) = (n : Int) := by
  simp [IntKind.wrap, IntKind.bits, IntKind.signed]
  omega
theorem swr_cnt {h ops : List Opn} (hs : SwR h ops) (lim : Int) : cntE ops lim = cntE h lim ∧ cntN ops lim = cntN h lim := by
  have h0 : (chkL ops).2 = 0 ↔ (chkL h).2 = 0 := by rw [chk_well, chk_well]; exact hs.2.1.symm
  have e1 : cntE ops lim = cntE h lim := by
    unfold cntE
    rw [hs.1]
    by_cases h1 : (chkL h).2 = 0
    · rw [h0.2 h1, h1]
    · have h2 : ¬ (chkL ops).2 = 0 := fun q => h1 (h0.1 q)
      rw [if_pos (.inl h2), if_pos (.inl h1)]
  exact ⟨e1, by unfold cntN; rw [e1, hs.1]⟩
theorem swr_small {h ops : List Opn} (hs : SwR h ops) (hh : SmallH h) : SmallH ops := ⟨by rw [hs.2.2.1]; exact hh.1, fun o ho => hh.2 o (hs.2.2.2 o ho)⟩
/-- What the loops carry. -/
def SortS (W : World) (h : List Opn) (g : Nat) (w : World) (css : List (List Value)) (ops : List Opn) : Prop := HisRow W w g css ∧ OpL W css ops ∧ SwR h ops
theorem SortS.cli {W w : World} {h : List Opn} {g : Nat} {css : List (List Value)} {ops : List Opn} (hs : SortS W h g w css ops) {j : Nat} (hj : j < ops.length) : w.cell? ⟨g, j * 6, none⟩ = some (.int .i64 (cliO ops[j])) := by
  have hj' : j < css.length := by rw [hs.2.1.1]; exact hj
  obtain ⟨va, vz, e, _, _⟩ := hs.2.1.2 j hj hj'
  have := hs.1.at_ j hj' 0 (.int .i64 (cliO ops[j])) (by rw [e]; rfl)
  exact this

set_option maxRecDepth 100000 in
set_option maxHeartbeats 8000000 in
theorem walk (v : Value) (h : List Opn) (W : World) (hr : ReadsO W v h) : Calls Try.prog 5 #[v] W (BoolMade W true) := by
  have HR := Lib.hid hr
  obtain ⟨ao, cap, rfl, hl, hm, -, -⟩ := hr
  unfold maxLen at hm
  go_enter Try.func5, Try.ntmps5
  have KW := Lib.hid (Below.refl W.heap.size W)
  go_wp2_with fail
  refine (awake_any _).mono ?_
  rintro e w1 ⟨rfl, hb⟩
  replace HR := Lib.hid (HR.out.on hb)
  replace KW := Lib.hid (KW.out.trans (hb.mono KW.out.size))
  clear hb
  go_wp2_with fail
  refine (small_any _ h 8 w1 HR.out (by decide)).mono ?_
  rintro e ws ⟨r, rfl, rfl, hsm⟩
  cases r with
  | false =>
    go_wp2
    go_ret
    exact ⟨rfl, KW.out⟩
  | true =>
    have HS := Lib.hid (hsm rfl).2
    have hn7 : h.length ≤ 8 := by have := (hsm rfl).1; omega
    clear hsm
    obtain ⟨W1, hW1⟩ : ∃ w, w = ws := ⟨_, rfl⟩
    subst hW1
    have HBX : Hid (∀ o, Below W1.heap.size W1 (W1.alloc o)) := Lib.hid fun o => (Below.refl _ _).alloc (Nat.le_refl _) o
    go_wp2_with (at_builtin; refine append_hist rfl (.tmp 15) (.tmp 16) rfl W1 _ h (HBX.out _) _ rfl ⟨_, rfl⟩ (World.ownsRow_made W1 #[] 0 (Nat.le_refl _) (Nat.zero_le _) rfl) rfl HR.out (by omega) ?_)
    intro v3 w3 hrow
    obtain ⟨ao3, cap3, rfl, hn3, hm3, hz3, hb3, hr3⟩ := hrow
    have KW3 := Lib.hid (KW.out.trans (hb3.mono KW.out.size))
    unfold maxLen at hm3
    clear HBX
    by_cases hne : h = []
    · subst hne
      have HFIN : Hid (ReadsO w3 (.slice ao3 0 cap3) [] ∧ SwR [] []) := Lib.hid ⟨⟨ao3, cap3, rfl, hn3, by unfold maxLen; omega, hz3, fun q => absurd rfl q⟩, SwR.refl []⟩
      have HB3 := Lib.hid hb3
      clear hr3 hz3 hb3
      go_wp2
      go_loopg [4] 0 (fun m i wr => m = 0 ∧ i = .int .i64 0 ∧ wr = w3)
      case atStart => exact ⟨rfl, rfl, rfl⟩
      case round =>
        obtain ⟨_, rfl, rfl⟩ := hrel
        replace HR := Lib.hid (HR.out.on HB3.out)
        have KWF := Lib.hid (KW.out.trans (HB3.out.mono KW.out.size))
        have HE := Lib.hid (swr_cnt HFIN.out.2 1073741824)
        have HSF := Lib.hid (swr_small HFIN.out.2 HS.out)
        have HLF := Lib.hid HFIN.out.2.2.2.1
        have HRF := Lib.hid HFIN.out.1
        clear HFIN KW HB3
        go_wp2_with fail
        refine (lCount_any _ [] 1073741824 _ HR.out HS.out (by omega) (by omega)).mono ?_
        rintro e w21 ⟨rfl, hb⟩
        replace HR := Lib.hid (HR.out.on hb)
        replace HRF := Lib.hid (HRF.out.on hb)
        replace KWF := Lib.hid (KWF.out.trans (hb.mono KWF.out.size))
        clear hb
        go_wp2_with fail
        refine (lCount_any _ [] 1073741824 _ HRF.out HSF.out (by have := HLF.out; omega) (by omega)).mono ?_
        rintro e w22 ⟨rfl, hb⟩
        replace HR := Lib.hid (HR.out.on hb)
        replace HRF := Lib.hid (HRF.out.on hb)
        replace KWF := Lib.hid (KWF.out.trans (hb.mono KWF.out.size))
        clear hb
        generalize cntN [] 1073741824 = n
        by_cases hz : cntE [] 1073741824 = 0
        · rw [hz]
          clear hz
          go_wp2
          go_ret
          exact ⟨rfl, KWF.out⟩
        · have e1 := bne_t hz
          have e2 := beq_f hz
          generalize cntE [] 1073741824 = c at *
          go_wp2
          go_ret
          exact ⟨rfl, KWF.out⟩
    · obtain ⟨g, css, rfl, hrow, hopl⟩ := hr3 hne
      have HST : Hid (SortS W1 h g w3 css h) := Lib.hid ⟨hrow, hopl, SwR.refl h⟩
      have HG : Hid (W1.heap.size ≤ g) := Lib.hid hrow.bg
      clear hr3 hz3 hb3 hrow hopl hne
      go_wp2
      go_loopg [4, 5] h.length (fun m i _ wr => ∃ (k : Nat) (css : List (List Value)) (ops : List Opn), m + k = h.length ∧ i = .int .i64 k ∧ SortS W1 h g wr css ops)
      case atStart => exact ⟨0, css, h, by omega, rfl, HST.out⟩
      case round =>
        clear HST
        obtain ⟨k, css, ops, hmk, rfl, hst⟩ := hrel
        have HM := Lib.hid hmk
        have HST := Lib.hid hst
        have hk : k ≤ h.length := by omega
        clear hmk hst
        by_cases hlt : k < h.length
        · have hki : (k : Int) < h.length := by omega
          obtain ⟨G2, hG2⟩ : ∃ G, G = gk := ⟨_, rfl⟩
          subst hG2
          go_wp2
          go_loopg [5] k (fun m i wr => ∃ (r : Nat) (css : List (List Value)) (ops : List Opn), m = r ∧ i = .int .i64 r ∧ r ≤ k ∧ SortS W1 h g wr css ops)
          case atStart => exact ⟨k, css, ops, rfl, rfl, Nat.le_refl _, HST.out⟩
          case round =>
            clear HST
            obtain ⟨r, css, ops, hmr, rfl, hrk, hst⟩ := hrel
            have HM2 := Lib.hid hmr
            have HST := Lib.hid hst
            clear hmr hst
            by_cases hr0 : r = 0
            · subst hr0
              go_upto_region 10 with fail
              refine region_left [.is (.int .i64 0), .is (.bool false), .is (.bool false), .is undef, .is undef, .is undef, .is undef, .is undef, .is undef, .is undef, .is undef, .is undef, .is undef, .is undef, .is undef, .is (.bool false)] (by kernel_rfl) rfl (by kernel_rfl) (by kernel_rfl) (.cons ?z1_0 (.cons ?z1_1 (.cons ?z1_2 (.cons ?z1_3 (.cons ?z1_4 (.cons ?z1_5 (.cons ?z1_6 (.cons ?z1_7 (.cons ?z1_8 (.cons ?z1_9 (.cons ?z1_10 (.cons ?z1_11 (.cons ?z1_12 (.cons ?z1_13 (.cons ?z1_14 (.cons ?z1_15 .nil)))))))))))))))) ?z1_fin
              case z1_0 =>
                intro wq hbw st  K hK
                simp only [Act.put, List.setIfInBounds_toArray, List.set_cons_zero, List.set_cons_succ] at hK ⊢
                unfold opStep
                rw [if_pos (by rfl)]
                go_simp
                exact hK.out _ _ (Below.refl _ _) rfl _ rfl
              case z1_1 =>
                intro wq hbw st  K hK
                simp only [Act.put, List.setIfInBounds_toArray, List.set_cons_zero, List.set_cons_succ] at hK ⊢
                unfold opStep
                rw [if_pos (by rfl)]
                go_simp
                exact hK.out _ _ (Below.refl _ _) rfl _ rfl
              case z1_2 =>
                intro wq hbw st  K hK
                simp only [Act.put, List.setIfInBounds_toArray, List.set_cons_zero, List.set_cons_succ] at hK ⊢
                unfold opStep
                rw [if_pos (by rfl)]
                go_simp
                exact hK.out _ _ (Below.refl _ _) rfl _ rfl
              case z1_3 =>
                intro wq hbw st  K hK
                simp only [Act.put, List.setIfInBounds_toArray, List.set_cons_zero, List.set_cons_succ] at hK ⊢
                unfold opStep
                rw [if_neg (by change ¬ (false = true); exact Bool.false_ne_true)]
                exact hK.out _ _ (Below.refl _ _) rfl _ rfl
              case z1_4 =>
                intro wq hbw st  K hK
                simp only [Act.put, List.setIfInBounds_toArray, List.set_cons_zero, List.set_cons_succ] at hK ⊢
                unfold opStep
                rw [if_neg (by change ¬ (false = true); exact Bool.false_ne_true)]
                exact hK.out _ _ (Below.refl _ _) rfl _ rfl
              case z1_5 =>
                intro wq hbw st  K hK
                simp only [Act.put, List.setIfInBounds_toArray, List.set_cons_zero, List.set_cons_succ] at hK ⊢
                unfold opStep
                rw [if_neg (by change ¬ (false = true); exact Bool.false_ne_true)]
                exact hK.out _ _ (Below.refl _ _) rfl _ rfl
              case z1_6 =>
                intro wq hbw st  K hK
                simp only [Act.put, List.setIfInBounds_toArray, List.set_cons_zero, List.set_cons_succ] at hK ⊢
                unfold opStep
                rw [if_neg (by change ¬ (false = true); exact Bool.false_ne_true)]
                exact hK.out _ _ (Below.refl _ _) rfl _ rfl
              case z1_7 =>
                intro wq hbw st  K hK
                simp only [Act.put, List.setIfInBounds_toArray, List.set_cons_zero, List.set_cons_succ] at hK ⊢
                unfold opStep
                rw [if_neg (by change ¬ (false = true); exact Bool.false_ne_true)]
                exact hK.out _ _ (Below.refl _ _) rfl _ rfl
              case z1_8 =>
                intro wq hbw st  K hK
                simp only [Act.put, List.setIfInBounds_toArray, List.set_cons_zero, List.set_cons_succ] at hK ⊢
                unfold opStep
                rw [if_neg (by change ¬ (false = true); exact Bool.false_ne_true)]
                exact hK.out _ _ (Below.refl _ _) rfl _ rfl
              case z1_9 =>
                intro wq hbw st  K hK
                simp only [Act.put, List.setIfInBounds_toArray, List.set_cons_zero, List.set_cons_succ] at hK ⊢
                unfold opStep
                rw [if_neg (by change ¬ (false = true); exact Bool.false_ne_true)]
                exact hK.out _ _ (Below.refl _ _) rfl _ rfl
              case z1_10 =>
                intro wq hbw st  K hK
                simp only [Act.put, List.setIfInBounds_toArray, List.set_cons_zero, List.set_cons_succ] at hK ⊢
                unfold opStep
                rw [if_neg (by change ¬ (false = true); exact Bool.false_ne_true)]
                exact hK.out _ _ (Below.refl _ _) rfl _ rfl
              case z1_11 =>
                intro wq hbw st  K hK
                simp only [Act.put, List.setIfInBounds_toArray, List.set_cons_zero, List.set_cons_succ] at hK ⊢
                unfold opStep
                rw [if_neg (by change ¬ (false = true); exact Bool.false_ne_true)]
                exact hK.out _ _ (Below.refl _ _) rfl _ rfl
              case z1_12 =>
                intro wq hbw st  K hK
                simp only [Act.put, List.setIfInBounds_toArray, List.set_cons_zero, List.set_cons_succ] at hK ⊢
                unfold opStep
                rw [if_neg (by change ¬ (false = true); exact Bool.false_ne_true)]
                exact hK.out _ _ (Below.refl _ _) rfl _ rfl
              case z1_13 =>
                intro wq hbw st  K hK
                simp only [Act.put, List.setIfInBounds_toArray, List.set_cons_zero, List.set_cons_succ] at hK ⊢
                unfold opStep
                rw [if_neg (by change ¬ (false = true); exact Bool.false_ne_true)]
                exact hK.out _ _ (Below.refl _ _) rfl _ rfl
              case z1_14 =>
                intro wq hbw st  K hK
                simp only [Act.put, List.setIfInBounds_toArray, List.set_cons_zero, List.set_cons_succ] at hK ⊢
                unfold opStep
                rw [if_neg (by change ¬ (false = true); exact Bool.false_ne_true)]
                exact hK.out _ _ (Below.refl _ _) rfl _ rfl
              case z1_15 =>
                intro wq hbw st  K hK
                simp only [Act.put, List.setIfInBounds_toArray, List.set_cons_zero, List.set_cons_succ] at hK ⊢
                unfold opStep
                rw [if_pos (by rfl)]
                go_simp
                exact hK.out _ _ (Below.refl _ _) rfl _ rfl
              case z1_fin =>
                intro wq hbw
                try simp only [FinAll]
                simp only [Act.put, List.setIfInBounds_toArray, List.set_cons_zero, List.set_cons_succ]
                replace HST : Hid (SortS W1 h g wq css ops) := Lib.hid ⟨HST.out.1.on hbw, HST.out.2⟩
                clear hbw
                go_wp2
                go_roundg (h.length - (k + 1))
                case measure => have := HM.out; omega
                case rel => exact ⟨k + 1, css, ops, by omega, by go_num, HST.out⟩
            · obtain ⟨q, rfl⟩ : ∃ q, r = q + 1 := ⟨r - 1, by omega⟩
              obtain ⟨r, hr⟩ : ∃ r, r = q + 1 := ⟨_, rfl⟩
              have hopn : ops.length = h.length := HST.out.2.2.2.2.1
              have hcsn : css.length = h.length := HST.out.2.1.1.trans hopn
              have HR1 : Hid (r < ops.length) := Lib.hid (by omega)
              have HQ1 : Hid (q < ops.length) := Lib.hid (by omega)
              rw [← hr] at HM2
              have hri : (r : Int) < h.length := by omega
              have hqi : (q : Int) < h.length := by omega
              have hrz : (0 : Int) ≤ (r : Int) := by omega
              have hqz : (0 : Int) ≤ (q : Int) := by omega
              have hrp : (0 : Int) < (r : Int) := by omega
              have hrq : (r : Int) - 1 = (q : Int) := by omega
              have hcast : ((q + 1 : Nat) : Int) = (r : Int) := by omega
              have HCQ : Hid (∀ wq, Below wr.heap.size wr wq → wq.cell? ⟨g, q * 6, none⟩ = some (.int .i64 (cliO ops[q]))) := Lib.hid fun wq hq => (hq.cell (p := ⟨g, q * 6, none⟩) HST.out.1.lt).trans (HST.out.cli HQ1.out)
              have HCR : Hid (∀ wq, Below wr.heap.size wr wq → wq.cell? ⟨g, r * 6, none⟩ = some (.int .i64 (cliO ops[r]))) := Lib.hid fun wq hq => (hq.cell (p := ⟨g, r * 6, none⟩) HST.out.1.lt).trans (HST.out.cli HR1.out)
              have HSTEP : Hid (cliO ops[r] < cliO ops[q] → SwR h ((ops.set q ops[r]).set r ops[q])) := Lib.hid fun hc => by
                subst hr
                exact HST.out.2.2.step HR1.out hc
              generalize hcq : cliO ops[q] = cq at *
              generalize hcr : cliO ops[r] = cr at *
              rw [hcast]
              clear hcast hcq hcr
              have HRK : Hid (r ≤ k) := Lib.hid (by omega)
              have HD0 : Hid (decide (0 < r) = true) := Lib.hid (decide_eq_true (by omega))
              have HWQ : Hid (IntKind.i64.wrap (q : Int) = (q : Int)) := Lib.hid (wrap_eight (by omega))
              have HRQ := Lib.hid hr
              clear hr hrk hr0
              by_cases hgt : cr < cq
              · have HSW := Lib.hid (HSTEP.out hgt)
                have HD := Lib.hid (decide_eq_true hgt)
                clear HSTEP hgt
                go_upto_region 10 with fail
                refine region_left [.is (.int .i64 (r : Int)), .is (.bool true), .is (.bool true), .is (.slice (some ⟨g, 0, none⟩) h.length cap3), .is (.int .i64 (r : Int)), .is (.int .i64 (q : Int)), .is (.pointer (some ⟨g, q * 6, none⟩)), .is (.pointer (some ⟨g, q * 6, none⟩)), .is (.int .i64 cq), .is (.slice (some ⟨g, 0, none⟩) h.length cap3), .is (.int .i64 (r : Int)), .is (.pointer (some ⟨g, r * 6, none⟩)), .is (.pointer (some ⟨g, r * 6, none⟩)), .is (.int .i64 cr), .is (.bool true), .is (.bool true)] (by kernel_rfl) rfl (by kernel_rfl) (by kernel_rfl) (.cons ?z3_0 (.cons ?z3_1 (.cons ?z3_2 (.cons ?z3_3 (.cons ?z3_4 (.cons ?z3_5 (.cons ?z3_6 (.cons ?z3_7 (.cons ?z3_8 (.cons ?z3_9 (.cons ?z3_10 (.cons ?z3_11 (.cons ?z3_12 (.cons ?z3_13 (.cons ?z3_14 (.cons ?z3_15 .nil)))))))))))))))) ?z3_fin
                case z3_0 =>
                  intro wq hbw st  K hK
                  simp only [Act.put, List.setIfInBounds_toArray, List.set_cons_zero, List.set_cons_succ] at hK ⊢
                  unfold opStep
                  rw [if_pos (by rfl)]
                  go_simp
                  exact hK.out _ _ (Below.refl _ _) rfl _ rfl
                case z3_1 =>
                  intro wq hbw st  K hK
                  simp only [Act.put, List.setIfInBounds_toArray, List.set_cons_zero, List.set_cons_succ] at hK ⊢
                  unfold opStep
                  rw [if_pos (by rfl)]
                  have hd0 := HD0.out
                  go_simp
                  exact hK.out _ _ (Below.refl _ _) rfl _ rfl
                case z3_2 =>
                  intro wq hbw st  K hK
                  simp only [Act.put, List.setIfInBounds_toArray, List.set_cons_zero, List.set_cons_succ] at hK ⊢
                  unfold opStep
                  rw [if_pos (by rfl)]
                  go_simp
                  exact hK.out _ _ (Below.refl _ _) rfl _ rfl
                case z3_3 =>
                  intro wq hbw st  K hK
                  simp only [Act.put, List.setIfInBounds_toArray, List.set_cons_zero, List.set_cons_succ] at hK ⊢
                  unfold opStep
                  rw [if_pos (by rfl)]
                  go_simp
                  exact hK.out _ _ (Below.refl _ _) rfl _ rfl
                case z3_4 =>
                  intro wq hbw st  K hK
                  simp only [Act.put, List.setIfInBounds_toArray, List.set_cons_zero, List.set_cons_succ] at hK ⊢
                  unfold opStep
                  rw [if_pos (by rfl)]
                  go_simp
                  exact hK.out _ _ (Below.refl _ _) rfl _ rfl
                case z3_5 =>
                  intro wq hbw st  K hK
                  simp only [Act.put, List.setIfInBounds_toArray, List.set_cons_zero, List.set_cons_succ] at hK ⊢
                  unfold opStep
                  rw [if_pos (by rfl)]
                  have hwq := HWQ.out
                  go_simp
                  exact hK.out _ _ (Below.refl _ _) rfl _ rfl
                case z3_6 =>
                  intro wq hbw st  K hK
                  simp only [Act.put, List.setIfInBounds_toArray, List.set_cons_zero, List.set_cons_succ] at hK ⊢
                  unfold opStep
                  rw [if_pos (by rfl)]
                  go_simp
                  exact hK.out _ _ (Below.refl _ _) rfl _ rfl
                case z3_7 =>
                  intro wq hbw st  K hK
                  simp only [Act.put, List.setIfInBounds_toArray, List.set_cons_zero, List.set_cons_succ] at hK ⊢
                  unfold opStep
                  rw [if_pos (by rfl)]
                  go_simp
                  exact hK.out _ _ (Below.refl _ _) rfl _ rfl
                case z3_8 =>
                  intro wq hbw st  K hK
                  simp only [Act.put, List.setIfInBounds_toArray, List.set_cons_zero, List.set_cons_succ] at hK ⊢
                  unfold opStep
                  rw [if_pos (by rfl)]
                  have c0 := HCQ.out wq hbw
                  go_simp
                  exact hK.out _ _ (Below.refl _ _) rfl _ rfl
                case z3_9 =>
                  intro wq hbw st  K hK
                  simp only [Act.put, List.setIfInBounds_toArray, List.set_cons_zero, List.set_cons_succ] at hK ⊢
                  unfold opStep
                  rw [if_pos (by rfl)]
                  go_simp
                  exact hK.out _ _ (Below.refl _ _) rfl _ rfl
                case z3_10 =>
                  intro wq hbw st  K hK
                  simp only [Act.put, List.setIfInBounds_toArray, List.set_cons_zero, List.set_cons_succ] at hK ⊢
                  unfold opStep
                  rw [if_pos (by rfl)]
                  go_simp
                  exact hK.out _ _ (Below.refl _ _) rfl _ rfl
                case z3_11 =>
                  intro wq hbw st  K hK
                  simp only [Act.put, List.setIfInBounds_toArray, List.set_cons_zero, List.set_cons_succ] at hK ⊢
                  unfold opStep
                  rw [if_pos (by rfl)]
                  go_simp
                  exact hK.out _ _ (Below.refl _ _) rfl _ rfl
                case z3_12 =>
                  intro wq hbw st  K hK
                  simp only [Act.put, List.setIfInBounds_toArray, List.set_cons_zero, List.set_cons_succ] at hK ⊢
                  unfold opStep
                  rw [if_pos (by rfl)]
                  go_simp
                  exact hK.out _ _ (Below.refl _ _) rfl _ rfl
                case z3_13 =>
                  intro wq hbw st  K hK
                  simp only [Act.put, List.setIfInBounds_toArray, List.set_cons_zero, List.set_cons_succ] at hK ⊢
                  unfold opStep
                  rw [if_pos (by rfl)]
                  have c0 := HCR.out wq hbw
                  go_simp
                  exact hK.out _ _ (Below.refl _ _) rfl _ rfl
                case z3_14 =>
                  intro wq hbw st  K hK
                  simp only [Act.put, List.setIfInBounds_toArray, List.set_cons_zero, List.set_cons_succ] at hK ⊢
                  unfold opStep
                  rw [if_pos (by rfl)]
                  have hd := HD.out
                  go_simp
                  exact hK.out _ _ (Below.refl _ _) rfl _ rfl
                case z3_15 =>
                  intro wq hbw st  K hK
                  simp only [Act.put, List.setIfInBounds_toArray, List.set_cons_zero, List.set_cons_succ] at hK ⊢
                  unfold opStep
                  rw [if_pos (by rfl)]
                  go_simp
                  exact hK.out _ _ (Below.refl _ _) rfl _ rfl
                case z3_fin =>
                  intro wq hbw
                  try simp only [FinAll]
                  simp only [Act.put, List.setIfInBounds_toArray, List.set_cons_zero, List.set_cons_succ]
                  replace HST := Lib.hid (show SortS W1 h g wq css ops from ⟨HST.out.1.on hbw, HST.out.2⟩)
                  clear hbw HCQ HCR
                  have HQC : Hid (q < css.length) := Lib.hid (by omega)
                  have HRC : Hid (r < css.length) := Lib.hid (by omega)
                  obtain ⟨XQ, hXQ⟩ : ∃ x, x = css[q]'HQC.out := ⟨_, rfl⟩
                  obtain ⟨XR, hXR⟩ : ∃ x, x = css[r]'HRC.out := ⟨_, rfl⟩
                  have XQs := Lib.hid (HST.out.1.six _ (List.getElem_mem HQC.out))
                  have XRs := Lib.hid (HST.out.1.six _ (List.getElem_mem HRC.out))
                  have HOQ := Lib.hid (HST.out.2.1.2 q HQ1.out HQC.out)
                  have HOR := Lib.hid (HST.out.2.1.2 r HR1.out HRC.out)
                  have HAQ : Hid (∀ w, HisRow W1 w g css → w.rangeAt g (q * 6) XQ) := Lib.hid fun w hw => by rw [hXQ]; exact hw.at_ q HQC.out
                  have HAR : Hid (∀ w, HisRow W1 w g css → w.rangeAt g (r * 6) XR) := Lib.hid fun w hw => by rw [hXR]; exact hw.at_ r HRC.out
                  rw [← hXQ] at XQs HOQ
                  rw [← hXR] at XRs HOR
                  clear hXQ hXR
                  have XQ6 : Hid (XQ.length = 6) := Lib.hid XQs.out.1
                  have XR6 : Hid (XR.length = 6) := Lib.hid XRs.out.1
                  have XQone : Hid (∀ u ∈ XQ, u.oneCell' = true) := Lib.hid XQs.out.2
                  have XRone : Hid (∀ u ∈ XR, u.oneCell' = true) := Lib.hid XRs.out.2
                  have HTHq : Hid (∀ w, HisRow W1 w g css → w.there g (q * 6) XR.toArray.size) := Lib.hid fun w hw => by rw [List.size_toArray, XR6.out]; exact hw.room HQC.out
                  have HPB : Hid (∀ w, HisRow W1 w g css → HisRow W1 (w.setCells g (q * 6) XR.toArray.toList) g (css.set q XR)) := Lib.hid fun w hw => hw.put HQC.out XRs.out
                  have HTHB : Hid (∀ w, HisRow W1 w g (css.set q XR) → w.there g (r * 6) XQ.toArray.size) := Lib.hid fun w hw => by rw [List.size_toArray, XQ6.out]; exact hw.room (by rw [List.length_set]; exact HRC.out)
                  have HPC : Hid (∀ w, HisRow W1 w g (css.set q XR) → HisRow W1 (w.setCells g (r * 6) XQ.toArray.toList) g ((css.set q XR).set r XQ)) := Lib.hid fun w hw => hw.put (by rw [List.length_set]; exact HRC.out) XQs.out
                  have HNL : Hid (OpL W1 ((css.set q XR).set r XQ) ((ops.set q ops[r]).set r ops[q])) := Lib.hid ((HST.out.2.1.set HOR.out).set HOQ.out)
                  go_upto_region 12 with fail
                  refine region_inv W1.heap.size (JX (fun w => HisRow W1 w g css) (fun w => HisRow W1 w g (css.set q XR)) (fun w => HisRow W1 w g ((css.set q XR).set r XQ))) [some (.slice (some ⟨g, 0, none⟩) h.length cap3), some (.int .i64 (r : Int)), some (.int .i64 (q : Int)), some (.slice (some ⟨g, 0, none⟩) h.length cap3), some (.int .i64 (r : Int)), some (.slice (some ⟨g, 0, none⟩) h.length cap3), some (.int .i64 (r : Int)), some (.pointer (some ⟨g, r * 6, none⟩)), some (.agg XR.toArray), some (.slice (some ⟨g, 0, none⟩) h.length cap3), some (.int .i64 (r : Int)), some (.int .i64 (q : Int)), some (.pointer (some ⟨g, q * 6, none⟩)), some (.agg XQ.toArray), some (.pointer (some ⟨g, q * 6, none⟩)), some undef, some (.pointer (some ⟨g, r * 6, none⟩)), some undef] (by kernel_rfl) rfl (by kernel_rfl) (by kernel_rfl) (fun st => JX.start HST.out.1.drew st) (.cons ?s2_0 (.cons ?s2_1 (.cons ?s2_2 (.cons ?s2_3 (.cons ?s2_4 (.cons ?s2_5 (.cons ?s2_6 (.cons ?s2_7 (.cons ?s2_8 (.cons ?s2_9 (.cons ?s2_10 (.cons ?s2_11 (.cons ?s2_12 (.cons ?s2_13 (.cons ?s2_14 (.cons ?s2_15 (.cons ?s2_16 (.cons ?s2_17 .nil)))))))))))))))))) ?s2_fin
                  case s2_0 =>
                    intro wq hbw D st hJ hD hdp K hK
                    simp only [Act.put, List.setIfInBounds_toArray, List.set_cons_zero, List.set_cons_succ] at hK ⊢
                    unfold opStep
                    rw [if_pos (by rfl)]
                    go_simp
                    exact hK.out _ _ (Below.refl _ _) (fun u hu => Option.some.inj hu) (hJ.pure 0 _ (by decide) (by decide)) _ rfl
                  case s2_1 =>
                    intro wq hbw D st hJ hD hdp K hK
                    simp only [Act.put, List.setIfInBounds_toArray, List.set_cons_zero, List.set_cons_succ] at hK ⊢
                    unfold opStep
                    rw [if_pos (by rfl)]
                    go_simp
                    exact hK.out _ _ (Below.refl _ _) (fun u hu => Option.some.inj hu) (hJ.pure 1 _ (by decide) (by decide)) _ rfl
                  case s2_2 =>
                    intro wq hbw D st hJ hD hdp K hK
                    simp only [Act.put, List.setIfInBounds_toArray, List.set_cons_zero, List.set_cons_succ] at hK ⊢
                    unfold opStep
                    rw [if_pos (by rfl)]
                    have hwq := HWQ.out
                    go_simp
                    exact hK.out _ _ (Below.refl _ _) (fun u hu => Option.some.inj hu) (hJ.pure 2 _ (by decide) (by decide)) _ rfl
                  case s2_3 =>
                    intro wq hbw D st hJ hD hdp K hK
                    simp only [Act.put, List.setIfInBounds_toArray, List.set_cons_zero, List.set_cons_succ] at hK ⊢
                    unfold opStep
                    rw [if_pos (by rfl)]
                    go_simp
                    exact hK.out _ _ (Below.refl _ _) (fun u hu => Option.some.inj hu) (hJ.pure 3 _ (by decide) (by decide)) _ rfl
                  case s2_4 =>
                    intro wq hbw D st hJ hD hdp K hK
                    simp only [Act.put, List.setIfInBounds_toArray, List.set_cons_zero, List.set_cons_succ] at hK ⊢
                    unfold opStep
                    rw [if_pos (by rfl)]
                    go_simp
                    exact hK.out _ _ (Below.refl _ _) (fun u hu => Option.some.inj hu) (hJ.pure 4 _ (by decide) (by decide)) _ rfl
                  case s2_5 =>
                    intro wq hbw D st hJ hD hdp K hK
                    simp only [Act.put, List.setIfInBounds_toArray, List.set_cons_zero, List.set_cons_succ] at hK ⊢
                    unfold opStep
                    rw [if_pos (by rfl)]
                    go_simp
                    exact hK.out _ _ (Below.refl _ _) (fun u hu => Option.some.inj hu) (hJ.pure 5 _ (by decide) (by decide)) _ rfl
                  case s2_6 =>
                    intro wq hbw D st hJ hD hdp K hK
                    simp only [Act.put, List.setIfInBounds_toArray, List.set_cons_zero, List.set_cons_succ] at hK ⊢
                    unfold opStep
                    rw [if_pos (by rfl)]
                    go_simp
                    exact hK.out _ _ (Below.refl _ _) (fun u hu => Option.some.inj hu) (hJ.pure 6 _ (by decide) (by decide)) _ rfl
                  case s2_7 =>
                    intro wq hbw D st hJ hD hdp K hK
                    simp only [Act.put, List.setIfInBounds_toArray, List.set_cons_zero, List.set_cons_succ] at hK ⊢
                    unfold opStep
                    rw [if_pos (by rfl)]
                    go_simp
                    exact hK.out _ _ (Below.refl _ _) (fun u hu => Option.some.inj hu) (hJ.pure 7 _ (by decide) (by decide)) _ rfl
                  case s2_8 =>
                    intro wq hbw D st hJ hD hdp K hK
                    simp only [Act.put, List.setIfInBounds_toArray, List.set_cons_zero, List.set_cons_succ] at hK ⊢
                    unfold opStep
                    rw [if_pos (by rfl)]
                    refine wp_load_mid 37 (.tmp 50) (by rfl) g (r * 6) (by rfl) XR _ (HAR.out _ (hJ.atA (hJ.no8 hD))) Try.underlying37 (by rfl) (by rw [XR6.out]; kernel_rfl) ?_
                    exact hK.out _ _ (Below.refl _ _) (fun u hu => Option.some.inj hu) (hJ.pure 8 _ (by decide) (by decide)) _ rfl
                  case s2_9 =>
                    intro wq hbw D st hJ hD hdp K hK
                    simp only [Act.put, List.setIfInBounds_toArray, List.set_cons_zero, List.set_cons_succ] at hK ⊢
                    unfold opStep
                    rw [if_pos (by rfl)]
                    go_simp
                    exact hK.out _ _ (Below.refl _ _) (fun u hu => Option.some.inj hu) (hJ.pure 9 _ (by decide) (by decide)) _ rfl
                  case s2_10 =>
                    intro wq hbw D st hJ hD hdp K hK
                    simp only [Act.put, List.setIfInBounds_toArray, List.set_cons_zero, List.set_cons_succ] at hK ⊢
                    unfold opStep
                    rw [if_pos (by rfl)]
                    go_simp
                    exact hK.out _ _ (Below.refl _ _) (fun u hu => Option.some.inj hu) (hJ.pure 10 _ (by decide) (by decide)) _ rfl
                  case s2_11 =>
                    intro wq hbw D st hJ hD hdp K hK
                    simp only [Act.put, List.setIfInBounds_toArray, List.set_cons_zero, List.set_cons_succ] at hK ⊢
                    unfold opStep
                    rw [if_pos (by rfl)]
                    have hwq := HWQ.out
                    go_simp
                    exact hK.out _ _ (Below.refl _ _) (fun u hu => Option.some.inj hu) (hJ.pure 11 _ (by decide) (by decide)) _ rfl
                  case s2_12 =>
                    intro wq hbw D st hJ hD hdp K hK
                    simp only [Act.put, List.setIfInBounds_toArray, List.set_cons_zero, List.set_cons_succ] at hK ⊢
                    unfold opStep
                    rw [if_pos (by rfl)]
                    go_simp
                    exact hK.out _ _ (Below.refl _ _) (fun u hu => Option.some.inj hu) (hJ.pure 12 _ (by decide) (by decide)) _ rfl
                  case s2_13 =>
                    intro wq hbw D st hJ hD hdp K hK
                    simp only [Act.put, List.setIfInBounds_toArray, List.set_cons_zero, List.set_cons_succ] at hK ⊢
                    unfold opStep
                    rw [if_pos (by rfl)]
                    refine wp_load_mid 37 (.tmp 55) (by rfl) g (q * 6) (by rfl) XQ _ (HAQ.out _ (hJ.atA (hJ.no13 hD))) Try.underlying37 (by rfl) (by rw [XQ6.out]; kernel_rfl) ?_
                    exact hK.out _ _ (Below.refl _ _) (fun u hu => Option.some.inj hu) (hJ.pure 13 _ (by decide) (by decide)) _ rfl
                  case s2_14 =>
                    intro wq hbw D st hJ hD hdp K hK
                    simp only [Act.put, List.setIfInBounds_toArray, List.set_cons_zero, List.set_cons_succ] at hK ⊢
                    unfold opStep
                    rw [if_pos (by rfl)]
                    go_simp
                    exact hK.out _ _ (Below.refl _ _) (fun u hu => Option.some.inj hu) (hJ.pure 14 _ (by decide) (by decide)) _ rfl
                  case s2_15 =>
                    intro wq hbw D st hJ hD hdp K hK
                    simp only [Act.put, List.setIfInBounds_toArray, List.set_cons_zero, List.set_cons_succ] at hK ⊢
                    unfold opStep
                    rw [if_pos (by rfl)]
                    have hA := hJ.atA hD
                    refine wp_store_mid 37 (.tmp 57) (.tmp 51) (by rfl) g (q * 6) XR.toArray (by rfl) (by rfl) (HTHq.out _ hA) (by rw [List.size_toArray, XR6.out]; kernel_rfl) (all_oneCell_toArray XRone.out) ?_
                    exact hK.out _ _ (below_setCells HG.out _ _ _ (Below.refl _ _)) (fun u hu => Option.some.inj hu) (hJ.s15 hD (hdp 8 (of_decide_eq_true (by kernel_rfl))) (hdp 13 (of_decide_eq_true (by kernel_rfl))) (HPB.out _ hA) _) _ rfl
                  case s2_16 =>
                    intro wq hbw D st hJ hD hdp K hK
                    simp only [Act.put, List.setIfInBounds_toArray, List.set_cons_zero, List.set_cons_succ] at hK ⊢
                    unfold opStep
                    rw [if_pos (by rfl)]
                    go_simp
                    exact hK.out _ _ (Below.refl _ _) (fun u hu => Option.some.inj hu) (hJ.pure 16 _ (by decide) (by decide)) _ rfl
                  case s2_17 =>
                    intro wq hbw D st hJ hD hdp K hK
                    simp only [Act.put, List.setIfInBounds_toArray, List.set_cons_zero, List.set_cons_succ] at hK ⊢
                    unfold opStep
                    rw [if_pos (by rfl)]
                    have hA := hJ.atB (hdp 15 (of_decide_eq_true (by kernel_rfl))) hD
                    refine wp_store_mid 37 (.tmp 58) (.tmp 56) (by rfl) g (r * 6) XQ.toArray (by rfl) (by rfl) (HTHB.out _ hA) (by rw [List.size_toArray, XQ6.out]; kernel_rfl) (all_oneCell_toArray XQone.out) ?_
                    exact hK.out _ _ (below_setCells HG.out _ _ _ (Below.refl _ _)) (fun u hu => Option.some.inj hu) (hJ.s17 (hdp 15 (of_decide_eq_true (by kernel_rfl))) (HPC.out _ hA) _) _ rfl
                  case s2_fin =>
                    intro wq hbw D st hall hJ
                    simp only [FinAll, lfOf]
                    simp only [Act.put, List.setIfInBounds_toArray, List.set_cons_zero, List.set_cons_succ]
                    have HST2 : Hid (SortS W1 h g wq ((css.set q XR).set r XQ) ((ops.set q ops[r]).set r ops[q])) := Lib.hid ⟨hJ.fin hall, HNL.out, HSW.out⟩
                    clear hJ hbw
                    go_wp2
                    go_roundg q
                    case measure => have := HM2.out; have := HRQ.out; omega
                    case rel => exact ⟨q, _, _, rfl, rfl, by have := HRQ.out; have := HRK.out; omega, HST2.out⟩
              · have HD := Lib.hid (decide_eq_false hgt)
                clear hgt
                clear HSTEP
                go_upto_region 10 with fail
                refine region_left [.is (.int .i64 (r : Int)), .is (.bool true), .is (.bool true), .is (.slice (some ⟨g, 0, none⟩) h.length cap3), .is (.int .i64 (r : Int)), .is (.int .i64 (q : Int)), .is (.pointer (some ⟨g, q * 6, none⟩)), .is (.pointer (some ⟨g, q * 6, none⟩)), .is (.int .i64 cq), .is (.slice (some ⟨g, 0, none⟩) h.length cap3), .is (.int .i64 (r : Int)), .is (.pointer (some ⟨g, r * 6, none⟩)), .is (.pointer (some ⟨g, r * 6, none⟩)), .is (.int .i64 cr), .is (.bool false), .is (.bool false)] (by kernel_rfl) rfl (by kernel_rfl) (by kernel_rfl) (.cons ?z4_0 (.cons ?z4_1 (.cons ?z4_2 (.cons ?z4_3 (.cons ?z4_4 (.cons ?z4_5 (.cons ?z4_6 (.cons ?z4_7 (.cons ?z4_8 (.cons ?z4_9 (.cons ?z4_10 (.cons ?z4_11 (.cons ?z4_12 (.cons ?z4_13 (.cons ?z4_14 (.cons ?z4_15 .nil)))))))))))))))) ?z4_fin
                case z4_0 =>
                  intro wq hbw st  K hK
                  simp only [Act.put, List.setIfInBounds_toArray, List.set_cons_zero, List.set_cons_succ] at hK ⊢
                  unfold opStep
                  rw [if_pos (by rfl)]
                  go_simp
                  exact hK.out _ _ (Below.refl _ _) rfl _ rfl
                case z4_1 =>
                  intro wq hbw st  K hK
                  simp only [Act.put, List.setIfInBounds_toArray, List.set_cons_zero, List.set_cons_succ] at hK ⊢
                  unfold opStep
                  rw [if_pos (by rfl)]
                  have hd0 := HD0.out
                  go_simp
                  exact hK.out _ _ (Below.refl _ _) rfl _ rfl
                case z4_2 =>
                  intro wq hbw st  K hK
                  simp only [Act.put, List.setIfInBounds_toArray, List.set_cons_zero, List.set_cons_succ] at hK ⊢
                  unfold opStep
                  rw [if_pos (by rfl)]
                  go_simp
                  exact hK.out _ _ (Below.refl _ _) rfl _ rfl
                case z4_3 =>
                  intro wq hbw st  K hK
                  simp only [Act.put, List.setIfInBounds_toArray, List.set_cons_zero, List.set_cons_succ] at hK ⊢
                  unfold opStep
                  rw [if_pos (by rfl)]
                  go_simp
                  exact hK.out _ _ (Below.refl _ _) rfl _ rfl
                case z4_4 =>
                  intro wq hbw st  K hK
                  simp only [Act.put, List.setIfInBounds_toArray, List.set_cons_zero, List.set_cons_succ] at hK ⊢
                  unfold opStep
                  rw [if_pos (by rfl)]
                  go_simp
                  exact hK.out _ _ (Below.refl _ _) rfl _ rfl
                case z4_5 =>
                  intro wq hbw st  K hK
                  simp only [Act.put, List.setIfInBounds_toArray, List.set_cons_zero, List.set_cons_succ] at hK ⊢
                  unfold opStep
                  rw [if_pos (by rfl)]
                  have hwq := HWQ.out
                  go_simp
                  exact hK.out _ _ (Below.refl _ _) rfl _ rfl
                case z4_6 =>
                  intro wq hbw st  K hK
                  simp only [Act.put, List.setIfInBounds_toArray, List.set_cons_zero, List.set_cons_succ] at hK ⊢
                  unfold opStep
                  rw [if_pos (by rfl)]
                  go_simp
                  exact hK.out _ _ (Below.refl _ _) rfl _ rfl
                case z4_7 =>
                  intro wq hbw st  K hK
                  simp only [Act.put, List.setIfInBounds_toArray, List.set_cons_zero, List.set_cons_succ] at hK ⊢
                  unfold opStep
                  rw [if_pos (by rfl)]
                  go_simp
                  exact hK.out _ _ (Below.refl _ _) rfl _ rfl
                case z4_8 =>
                  intro wq hbw st  K hK
                  simp only [Act.put, List.setIfInBounds_toArray, List.set_cons_zero, List.set_cons_succ] at hK ⊢
                  unfold opStep
                  rw [if_pos (by rfl)]
                  have c0 := HCQ.out wq hbw
                  go_simp
                  exact hK.out _ _ (Below.refl _ _) rfl _ rfl
                case z4_9 =>
                  intro wq hbw st  K hK
                  simp only [Act.put, List.setIfInBounds_toArray, List.set_cons_zero, List.set_cons_succ] at hK ⊢
                  unfold opStep
                  rw [if_pos (by rfl)]
                  go_simp
                  exact hK.out _ _ (Below.refl _ _) rfl _ rfl
                case z4_10 =>
                  intro wq hbw st  K hK
                  simp only [Act.put, List.setIfInBounds_toArray, List.set_cons_zero, List.set_cons_succ] at hK ⊢
                  unfold opStep
                  rw [if_pos (by rfl)]
                  go_simp
                  exact hK.out _ _ (Below.refl _ _) rfl _ rfl
                case z4_11 =>
                  intro wq hbw st  K hK
                  simp only [Act.put, List.setIfInBounds_toArray, List.set_cons_zero, List.set_cons_succ] at hK ⊢
                  unfold opStep
                  rw [if_pos (by rfl)]
                  go_simp
                  exact hK.out _ _ (Below.refl _ _) rfl _ rfl
                case z4_12 =>
                  intro wq hbw st  K hK
                  simp only [Act.put, List.setIfInBounds_toArray, List.set_cons_zero, List.set_cons_succ] at hK ⊢
                  unfold opStep
                  rw [if_pos (by rfl)]
                  go_simp
                  exact hK.out _ _ (Below.refl _ _) rfl _ rfl
                case z4_13 =>
                  intro wq hbw st  K hK
                  simp only [Act.put, List.setIfInBounds_toArray, List.set_cons_zero, List.set_cons_succ] at hK ⊢
                  unfold opStep
                  rw [if_pos (by rfl)]
                  have c0 := HCR.out wq hbw
                  go_simp
                  exact hK.out _ _ (Below.refl _ _) rfl _ rfl
                case z4_14 =>
                  intro wq hbw st  K hK
                  simp only [Act.put, List.setIfInBounds_toArray, List.set_cons_zero, List.set_cons_succ] at hK ⊢
                  unfold opStep
                  rw [if_pos (by rfl)]
                  have hd := HD.out
                  go_simp
                  exact hK.out _ _ (Below.refl _ _) rfl _ rfl
                case z4_15 =>
                  intro wq hbw st  K hK
                  simp only [Act.put, List.setIfInBounds_toArray, List.set_cons_zero, List.set_cons_succ] at hK ⊢
                  unfold opStep
                  rw [if_pos (by rfl)]
                  go_simp
                  exact hK.out _ _ (Below.refl _ _) rfl _ rfl
                case z4_fin =>
                  intro wq hbw
                  try simp only [FinAll]
                  simp only [Act.put, List.setIfInBounds_toArray, List.set_cons_zero, List.set_cons_succ]
                  replace HST : Hid (SortS W1 h g wq css ops) := Lib.hid ⟨HST.out.1.on hbw, HST.out.2⟩
                  clear hbw
                  go_wp2
                  go_roundg (h.length - (k + 1))
                  case measure => have := HM.out; omega
                  case rel => exact ⟨k + 1, css, ops, by omega, by go_num, HST.out⟩
        · have hlz : ¬ (k : Int) < h.length := by omega
          have hopn : ops.length = h.length := HST.out.2.2.2.2.1
          have HFIN : Hid (ReadsO wr (.slice (some ⟨g, 0, none⟩) h.length cap3) ops ∧ SwR h ops) := Lib.hid ⟨by
            have h9 := HRow.reads (W := W1) (w := wr) (v := .slice (some ⟨g, 0, none⟩) ops.length cap3) ⟨_, cap3, rfl, by omega, by unfold maxLen; omega, (fun e => by cases e), HST.out.1.bel, fun _ => ⟨g, css, rfl, HST.out.1, HST.out.2.1⟩⟩
            rwa [hopn] at h9, HST.out.2.2⟩
          have HB3 := Lib.hid HST.out.1.bel
          clear HST hopn
          replace HR := Lib.hid (HR.out.on HB3.out)
          have KWF := Lib.hid (KW.out.trans (HB3.out.mono KW.out.size))
          have HE := Lib.hid (swr_cnt HFIN.out.2 1073741824)
          have HSF := Lib.hid (swr_small HFIN.out.2 HS.out)
          have HLF := Lib.hid HFIN.out.2.2.2.1
          have HRF := Lib.hid HFIN.out.1
          clear HFIN KW HB3
          go_wp2_with fail
          refine (lCount_any _ h 1073741824 _ HR.out HS.out (by omega) (by omega)).mono ?_
          rintro e w21 ⟨rfl, hb⟩
          replace HR := Lib.hid (HR.out.on hb)
          replace HRF := Lib.hid (HRF.out.on hb)
          replace KWF := Lib.hid (KWF.out.trans (hb.mono KWF.out.size))
          clear hb
          go_wp2_with fail
          refine (lCount_any _ ops 1073741824 _ HRF.out HSF.out (by have := HLF.out; omega) (by omega)).mono ?_
          rintro e w22 ⟨rfl, hb⟩
          replace HR := Lib.hid (HR.out.on hb)
          replace HRF := Lib.hid (HRF.out.on hb)
          replace KWF := Lib.hid (KWF.out.trans (hb.mono KWF.out.size))
          clear hb
          rw [HE.out.1, HE.out.2]
          generalize cntN h 1073741824 = n
          by_cases hz : cntE h 1073741824 = 0
          · rw [hz]
            clear hz
            go_wp2
            go_ret
            exact ⟨rfl, KWF.out⟩
          · have e1 := bne_t hz
            have e2 := beq_f hz
            generalize cntE h 1073741824 = c at *
            go_wp2
            go_ret
            exact ⟨rfl, KWF.out⟩

set_option maxRecDepth 100000 in
theorem lifted (os : Os) (started : os.Started) (H : Type) (enc : TypeId × Value → H) :
    ReturnsInHanded {} Try.checked os 5 .any (Rows.linearOrderlessSpec.pre6 enc Try.prog Try.f5 Rows.linearOrderlessRow.domain false) (Rows.linearOrderlessSpec.post enc Try.prog Try.f5 false true false false) := by
  refine returnsInHanded_of_change (C := Try.checked) own started (by kernel_rfl) Try.func5
    (ChangeSpec.witness6 (enc := enc) (C := Try.checked) false ⟨#[], #[.slice none 0 0], []⟩ 8 (by kernel_rfl) (by kernel_rfl) (by kernel_rfl) (by kernel_rfl)) ?_
  intro W base args ds gs before hval0 hW hcnd _
  have hval : ∀ (j : Nat) t v, Try.f5.params[j]? = some t → args[j]? = some v → Value.okWide Try.prog W .any base t v := hval0
  have hW' := hW
  obtain ⟨p, q, hA0, hV, rfl, hfz, hnd⟩ := hW
  have hA : DataW.TrodAll enc Try.prog W 0 (fun _ => true) true Try.f5.params.toList args.toList ds p := hA0
  rw [Try.params5] at hA hval
  obtain ⟨v0, vs0, d0, ds0, p0, q0, hargs, rfl, rfl, t0, r0⟩ := trodAll_cons hA
  obtain ⟨rfl, rfl, rfl⟩ := trodAll_nil r0
  obtain rfl : args = #[v0] := by cases args; simp_all
  obtain ⟨rfl, rfl⟩ := trodVars_none hV
  obtain ⟨x0, h0⟩ := open_ops (hval 0 22 v0 rfl rfl) t0
  refine (walk v0 x0 W h0).mono fun e W' ⟨he, hb⟩ => ?_
  subst he
  exact ⟨_, rfl, law_post laidOut rfl (fun _ _ => rfl) (by kernel_rfl) Try.underlying4 (by rw [Try.params5]; exact fun t ht => by simp at ht; rcases ht with  rfl ; all_goals exact ⟨by kernel_rfl, of_decide_eq_true (by kernel_rfl)⟩) hW' hb⟩

theorem over : Rows.linearOrderlessRow.holds Try.pinned (OpenSpec.ofChange Rows.linearOrderlessSpec) :=
  OpenClaim.holds_of_wide 5 Try.f5 rfl rfl rfl rfl rfl rfl rfl ⟨rfl, rfl, rfl, rfl, rfl⟩ rfl rfl rfl rfl rfl (by kernel_rfl) Try.func5 (by kernel_rfl)
    (of_decide_eq_true (by kernel_rfl)) (by unfold Func.isWrapper; first | (rw [if_pos (by decide +kernel)]; kernel_rfl) | (rw [if_neg (by decide +kernel)]; exact ⟨rfl, rfl⟩))
    (fun os started H enc _ => lifted os started H enc)

theorem proved : Rows.LinearOrderlessSaid := over
end Go.Proofs.Ytgaolgfjbgflgaa.linearOrderless
