/-
  HistoryComplete: for all histories and times the law returns true, and what came in reads behind the call as before. No condition.
-/
import Derived.Test.YtnpfalloelmflaaRk
import Derived.Test.YtnpfalloelmflaaRs
import Derived.Test.YtnpfalloelmflaaHs
import Derived.Test.YtnpfalloelmflaaHz
import Derived.Test.YtnpfalloelmflaaHq
import Derived.Deep.DeepCutAuto
namespace Go.Proofs.Ytnpfalloelmflaa.historyComplete
open Go.ChangeShapes Go.WideShapes Go.ChangeAt Go.RowKit

theorem small_comp {h : List Opn} (hs : SmallH h) (S : List Str) (last : Int) : SmallH (compL S last h) := by
  refine ⟨Nat.le_trans (compL_len S last h) hs.1, fun o ho => ?_⟩
  obtain ⟨x, hx, hc⟩ := comp_mem ho
  have h1 := hs.2 x hx
  have h2 := compO_keep hc
  rw [h2.2.2.1, h2.2.2.2.2]
  exact h1
theorem compErr_is (h : List Opn) (last : Int) : compErr h last = 0 ∨ compErr h last = 1 ∨ compErr h last = 5 := by
  unfold compErr
  split
  · split
    · exact .inr (.inr rfl)
    · exact .inl rfl
  · exact .inr (.inl rfl)
theorem rcomp_as {f a w} {h M : List Opn} {last c : Int} (e : compErr h last = c) (e2 : (if c = 0 then compL (seenL h) last h else []) = M) (hc : Calls Try.prog f a w (RCompMade w h last)) :
    Calls Try.prog f a w fun e w' => ∃ v, e = .returned (.tuple #[v, .int .i64 c]) ∧ ReadsO w' v M ∧ Below w.heap.size w w' := by
  subst e e2; exact hc
theorem ccomp_as {f a w} {h M : List Opn} {last c : Int} (e : compErr h last = c) (e2 : (if c = 0 then compL (seenL h) last h else []) = M) (hc : Calls Try.prog f a w (CompMade w h last)) :
    Calls Try.prog f a w fun e w' => ∃ v, e = .returned (.tuple #[v, .int .i64 c]) ∧ ReadsO w' v M ∧ Below w.heap.size w w' := by
  subst e e2
  exact hc.mono fun _ _ ⟨v, h1, h2, _, h3⟩ => ⟨v, h1, h2, h3⟩

set_option maxRecDepth 100000 in
set_option maxHeartbeats 8000000 in
theorem walk (v : Value) (h : List Opn) (last : Int) (W : World) (hr : ReadsO W v h) : Calls Try.prog 8 #[v, .int .i64 last] W (BoolMade W true) := by
  have HR := Lib.hid hr
  have HSM := Lib.hid (rsmall_any v h 20 W hr)
  obtain ⟨ao, cap, rfl, hl, hm, -, -⟩ := hr
  unfold maxLen at hm
  go_enter Try.func8, Try.ntmps8
  have KW := Lib.hid (Below.refl W.heap.size W)
  by_cases hs : smallB h 20 = true
  · have HS := Lib.hid (SmallH.of (by decide) hs)
    rw [hs] at HSM
    clear hs
    rcases compErr_is h last with hc | hc | hc
    · have HCE := Lib.hid hc
      clear hc
      go_wp2_with fail
      refine (HSM.out).mono ?_
      rintro e W ⟨rfl, rfl⟩
      go_wp2_with fail
      refine (ccomp_as (M := (compL (seenL h) last h)) HCE.out (by simp) (complete_any _ h last W HR.out HS.out)).mono ?_
      rintro e w1 ⟨x, rfl, hx, hb⟩
      replace HR := Lib.hid (HR.out.on hb)
      replace KW := Lib.hid (KW.out.trans (hb.mono KW.out.size))
      have HX := Lib.hid (hx)
      clear hb hx
      go_wp2_with fail
      refine (rcomp_as (M := (compL (seenL h) last h)) HCE.out (by simp) (rcomplete_any _ h last w1 HR.out HS.out)).mono ?_
      rintro e w2 ⟨y, rfl, hy, hb⟩
      replace HR := Lib.hid (HR.out.on hb)
      replace KW := Lib.hid (KW.out.trans (hb.mono KW.out.size))
      replace HX := Lib.hid (HX.out.on hb)
      have HY := Lib.hid (hy)
      clear hb hy
      go_wp2_with fail
      refine (rsame54_any x y (compL (seenL h) last h) (compL (seenL h) last h) _ HX.out HY.out).mono ?_
      rintro e w3 ⟨rfl, hb⟩
      replace HR := Lib.hid (HR.out.on hb)
      replace KW := Lib.hid (KW.out.trans (hb.mono KW.out.size))
      replace HX := Lib.hid (HX.out.on hb)
      replace HY := Lib.hid (HY.out.on hb)
      clear hb
      rw [eqO_yes rfl]
      have HSC := Lib.hid (small_comp HS.out (seenL h) last)
      have HEND := Lib.hid (fun x hx => (comp_end (S := seenL h) HCE.out (x := x) hx).1)
      have HWC := Lib.hid (well_yes (well_comp HCE.out (seenL h)))
      have HPN := Lib.hid (pend_none HEND.out)
      have HAG := Lib.hid (fun S last => comp_again (S := S) (last := last) HEND.out)
      have HEA := Lib.hid (fun hM => compErr_again (M := 1099511627776) HCE.out hM (seenL h))
      generalize compL (seenL h) last h = M at *
      clear HCE
      go_wp2_with fail
      refine (rwell_any x M _ HX.out HSC.out).mono ?_
      rintro e w4 ⟨rfl, hb⟩
      replace HR := Lib.hid (HR.out.on hb)
      replace KW := Lib.hid (KW.out.trans (hb.mono KW.out.size))
      replace HX := Lib.hid (HX.out.on hb)
      replace HY := Lib.hid (HY.out.on hb)
      clear hb
      rw [HWC.out]
      have HPD := Lib.hid (pending_any x M _ HX.out HSC.out.1)
      rw [HPN.out] at HPD
      go_wp2_with fail
      refine (HPD.out).mono ?_
      rintro e w5 ⟨p, rfl, hp, hb⟩
      obtain ⟨ap, cp, rfl, -, hcp, -, -⟩ := hp
      unfold maxLen at hcp
      clear HPD
      replace HR := Lib.hid (HR.out.on hb)
      replace KW := Lib.hid (KW.out.trans (hb.mono KW.out.size))
      replace HX := Lib.hid (HX.out.on hb)
      replace HY := Lib.hid (HY.out.on hb)
      clear hb
      by_cases hM : last < 1099511627776
      · have HEZ := Lib.hid (HEA.out hM)
        go_wp2_with fail
        refine (ccomp_as (M := M) HEZ.out (by rw [if_pos rfl]; exact HAG.out _ _) (complete_any x M 1099511627776 _ HX.out HSC.out)).mono ?_
        rintro e w6 ⟨z, rfl, hz, hb⟩
        replace HR := Lib.hid (HR.out.on hb)
        replace KW := Lib.hid (KW.out.trans (hb.mono KW.out.size))
        replace HX := Lib.hid (HX.out.on hb)
        replace HY := Lib.hid (HY.out.on hb)
        have HZ := Lib.hid (hz)
        clear hb hz
        go_wp2_with fail
        refine (awake_any _).mono ?_
        rintro e w7 ⟨rfl, hb⟩
        replace HR := Lib.hid (HR.out.on hb)
        replace KW := Lib.hid (KW.out.trans (hb.mono KW.out.size))
        replace HX := Lib.hid (HX.out.on hb)
        replace HY := Lib.hid (HY.out.on hb)
        replace HZ := Lib.hid (HZ.out.on hb)
        clear hb
        go_wp2_with fail
        refine (rsame54_any z x M M _ HZ.out HX.out).mono ?_
        rintro e w8 ⟨rfl, hb⟩
        replace HR := Lib.hid (HR.out.on hb)
        replace KW := Lib.hid (KW.out.trans (hb.mono KW.out.size))
        replace HX := Lib.hid (HX.out.on hb)
        replace HY := Lib.hid (HY.out.on hb)
        replace HZ := Lib.hid (HZ.out.on hb)
        clear hb
        rw [eqO_yes rfl]
        go_wp2
        go_ret
        exact ⟨rfl, KW.out⟩
      · go_wp2_with fail
        refine (ccomp_as rfl rfl (complete_any x M 1099511627776 _ HX.out HSC.out)).mono ?_
        rintro e w6 ⟨z, rfl, hz, hb⟩
        replace HR := Lib.hid (HR.out.on hb)
        replace KW := Lib.hid (KW.out.trans (hb.mono KW.out.size))
        replace HX := Lib.hid (HX.out.on hb)
        replace HY := Lib.hid (HY.out.on hb)
        clear hb hz
        generalize compErr M 1099511627776 = ce at *
        go_wp2_with fail
        refine (awake_any _).mono ?_
        rintro e w7 ⟨rfl, hb⟩
        replace HR := Lib.hid (HR.out.on hb)
        replace KW := Lib.hid (KW.out.trans (hb.mono KW.out.size))
        replace HX := Lib.hid (HX.out.on hb)
        replace HY := Lib.hid (HY.out.on hb)
        clear hb
        go_wp2
        go_ret
        exact ⟨rfl, KW.out⟩
    · have HCE := Lib.hid hc
      clear hc
      go_wp2_with fail
      refine (HSM.out).mono ?_
      rintro e W ⟨rfl, rfl⟩
      go_wp2_with fail
      refine (ccomp_as (M := []) HCE.out (by simp) (complete_any _ h last W HR.out HS.out)).mono ?_
      rintro e w1 ⟨x, rfl, hx, hb⟩
      replace HR := Lib.hid (HR.out.on hb)
      replace KW := Lib.hid (KW.out.trans (hb.mono KW.out.size))
      have HX := Lib.hid (hx)
      clear hb hx
      go_wp2_with fail
      refine (rcomp_as (M := []) HCE.out (by simp) (rcomplete_any _ h last w1 HR.out HS.out)).mono ?_
      rintro e w2 ⟨y, rfl, hy, hb⟩
      replace HR := Lib.hid (HR.out.on hb)
      replace KW := Lib.hid (KW.out.trans (hb.mono KW.out.size))
      replace HX := Lib.hid (HX.out.on hb)
      have HY := Lib.hid (hy)
      clear hb hy
      go_wp2_with fail
      refine (rsame54_any x y [] [] _ HX.out HY.out).mono ?_
      rintro e w3 ⟨rfl, hb⟩
      replace HR := Lib.hid (HR.out.on hb)
      replace KW := Lib.hid (KW.out.trans (hb.mono KW.out.size))
      replace HX := Lib.hid (HX.out.on hb)
      replace HY := Lib.hid (HY.out.on hb)
      clear hb
      rw [eqO_yes rfl]
      go_wp2_with fail
      refine (awake_any _).mono ?_
      rintro e w4 ⟨rfl, hb⟩
      replace HR := Lib.hid (HR.out.on hb)
      replace KW := Lib.hid (KW.out.trans (hb.mono KW.out.size))
      replace HX := Lib.hid (HX.out.on hb)
      replace HY := Lib.hid (HY.out.on hb)
      clear hb
      go_wp2
      go_ret
      exact ⟨rfl, KW.out⟩
    · have HCE := Lib.hid hc
      clear hc
      go_wp2_with fail
      refine (HSM.out).mono ?_
      rintro e W ⟨rfl, rfl⟩
      go_wp2_with fail
      refine (ccomp_as (M := []) HCE.out (by simp) (complete_any _ h last W HR.out HS.out)).mono ?_
      rintro e w1 ⟨x, rfl, hx, hb⟩
      replace HR := Lib.hid (HR.out.on hb)
      replace KW := Lib.hid (KW.out.trans (hb.mono KW.out.size))
      have HX := Lib.hid (hx)
      clear hb hx
      go_wp2_with fail
      refine (rcomp_as (M := []) HCE.out (by simp) (rcomplete_any _ h last w1 HR.out HS.out)).mono ?_
      rintro e w2 ⟨y, rfl, hy, hb⟩
      replace HR := Lib.hid (HR.out.on hb)
      replace KW := Lib.hid (KW.out.trans (hb.mono KW.out.size))
      replace HX := Lib.hid (HX.out.on hb)
      have HY := Lib.hid (hy)
      clear hb hy
      go_wp2_with fail
      refine (rsame54_any x y [] [] _ HX.out HY.out).mono ?_
      rintro e w3 ⟨rfl, hb⟩
      replace HR := Lib.hid (HR.out.on hb)
      replace KW := Lib.hid (KW.out.trans (hb.mono KW.out.size))
      replace HX := Lib.hid (HX.out.on hb)
      replace HY := Lib.hid (HY.out.on hb)
      clear hb
      rw [eqO_yes rfl]
      go_wp2_with fail
      refine (awake_any _).mono ?_
      rintro e w4 ⟨rfl, hb⟩
      replace HR := Lib.hid (HR.out.on hb)
      replace KW := Lib.hid (KW.out.trans (hb.mono KW.out.size))
      replace HX := Lib.hid (HX.out.on hb)
      replace HY := Lib.hid (HY.out.on hb)
      clear hb
      go_wp2
      go_ret
      exact ⟨rfl, KW.out⟩
  · rw [Bool.eq_false_iff.2 hs] at HSM
    clear hs
    go_wp2_with fail
    refine HSM.out.mono ?_
    rintro e w1 ⟨rfl, rfl⟩
    go_wp2_with fail
    refine (awake_any _).mono ?_
    rintro e w2 ⟨rfl, hb⟩
    have HB := Lib.hid hb
    clear hb
    go_wp2
    go_ret
    exact ⟨rfl, HB.out⟩

set_option maxRecDepth 100000 in
theorem lifted (os : Os) (started : os.Started) (H : Type) (enc : TypeId × Value → H) :
    ReturnsInHanded {} Try.checked os 8 .any (Rows.historyCompleteSpec.pre6 enc Try.prog Try.f8 Rows.historyCompleteRow.domain false) (Rows.historyCompleteSpec.post enc Try.prog Try.f8 false true false false) := by
  refine returnsInHanded_of_change (C := Try.checked) own started (by kernel_rfl) Try.func8
    (ChangeSpec.witness6 (enc := enc) (C := Try.checked) false ⟨#[], #[.slice none 0 0, .int .i64 0], []⟩ 8 (by kernel_rfl) (by kernel_rfl) (by kernel_rfl) (by kernel_rfl)) ?_
  intro W base args ds gs before hval0 hW hcnd _
  have hval : ∀ (j : Nat) t v, Try.f8.params[j]? = some t → args[j]? = some v → Value.okWide Try.prog W .any base t v := hval0
  have hW' := hW
  obtain ⟨p, q, hA0, hV, rfl, hfz, hnd⟩ := hW
  have hA : DataW.TrodAll enc Try.prog W 0 (fun _ => true) true Try.f8.params.toList args.toList ds p := hA0
  rw [Try.params8] at hA hval
  obtain ⟨v0, vs0, d0, ds0, p0, q0, hargs, rfl, rfl, t0, r0⟩ := trodAll_cons hA
  obtain ⟨v1, vs1, d1, ds1, p1, q1, rfl, rfl, rfl, t1, r1⟩ := trodAll_cons r0
  obtain ⟨rfl, rfl, rfl⟩ := trodAll_nil r1
  obtain rfl : args = #[v0, v1] := by cases args; simp_all
  obtain ⟨rfl, rfl⟩ := trodVars_none hV
  obtain ⟨x0, h0⟩ := open_ops (hval 0 22 v0 rfl rfl) t0
  obtain ⟨x1, rfl, _, _, w1⟩ := open_int Try.underlying3 (hval 1 3 v1 rfl rfl) t1
  refine (walk v0 x0 x1 W h0).mono fun e W' ⟨he, hb⟩ => ?_
  subst he
  exact ⟨_, rfl, law_post laidOut rfl (fun _ _ => rfl) (by kernel_rfl) Try.underlying4 (by rw [Try.params8]; exact fun t ht => by simp at ht; rcases ht with  rfl | rfl ; all_goals exact ⟨by kernel_rfl, of_decide_eq_true (by kernel_rfl)⟩) hW' hb⟩

theorem over : Rows.historyCompleteRow.holds Try.pinned (OpenSpec.ofChange Rows.historyCompleteSpec) :=
  OpenClaim.holds_of_wide 8 Try.f8 rfl rfl rfl rfl rfl rfl rfl ⟨rfl, rfl, rfl, rfl, rfl⟩ rfl rfl rfl rfl rfl (by kernel_rfl) Try.func8 (by kernel_rfl)
    (of_decide_eq_true (by kernel_rfl)) (by unfold Func.isWrapper; first | (rw [if_pos (by decide +kernel)]; kernel_rfl) | (rw [if_neg (by decide +kernel)]; exact ⟨rfl, rfl⟩))
    (fun os started H enc _ => lifted os started H enc)

theorem proved : Rows.HistoryCompleteSaid := over
end Go.Proofs.Ytnpfalloelmflaa.historyComplete
