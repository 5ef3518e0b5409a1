/-
  ScheduleEquivalent: for all arguments the law returns true, and what came in reads behind the call as before. No condition.
-/
import Derived.Test.YtfdicndmebhmdaaOb
import Derived.Test.YtfdicndmebhmdaaNa
import Derived.Test.YtfdicndmebhmdaaHq
import Derived.Deep.DeepCutAuto
namespace Go.Proofs.Ytfdicndmebhmdaa.scheduleEquivalent
open Go.ChangeShapes Go.WideShapes Go.ChangeAt Go.RowKit

set_option maxRecDepth 100000 in
set_option maxHeartbeats 16000000 in
theorem walk (va vb : Value) (a b : List Ev) (W : World) (ha : ReadsE W va a) (hb : ReadsE W vb b) : Calls Try.prog 4 #[va, vb] W (BoolMade W true) := by
  have HR := Lib.hid (And.intro ha hb)
  obtain ⟨ao, cap, rfl, hl, hm, -, -⟩ := ha
  obtain ⟨bo, cap2, rfl, hl2, hm2, -, -⟩ := hb
  unfold maxLen at hm hm2
  go_enter Try.func4, Try.ntmps4
  have KW := Lib.hid (Below.refl W.heap.size W)
  go_wp2_with fail
  refine (awake_any _).mono ?_
  rintro e w1 ⟨rfl, hb⟩
  replace HR := Lib.hid (And.intro (HR.out.1.on hb) (HR.out.2.on hb))
  replace KW := Lib.hid (KW.out.trans (hb.mono KW.out.size))
  clear hb
  go_wp2_with fail
  refine (rsmall_any _ a 6 w1 HR.out.1).mono ?_
  rintro e ws ⟨rfl, rfl⟩
  cases hs : smB a 6 with
  | false =>
    go_wp2
    go_ret
    exact ⟨rfl, KW.out⟩
  | true =>
    have HSA := Lib.hid hs
    clear hs
    go_wp2_with fail
    refine (rsmall_any _ b 6 _ HR.out.2).mono ?_
    rintro e ws ⟨rfl, rfl⟩
    cases hs : smB b 6 with
    | false =>
      go_wp2
      go_ret
      exact ⟨rfl, KW.out⟩
    | true =>
      have HSB := Lib.hid hs
      clear hs
      have HST := Lib.hid (And.intro (SmallT.of HSA.out (by decide)) (SmallT.of HSB.out (by decide)))
      have hal : a.length ≤ 6 := by have := (smB_of HSA.out).1; omega
      have hbl : b.length ≤ 6 := by have := (smB_of HSB.out).1; omega
      clear HSA HSB
      have HSY : Hid (decide (normE b = normE a) = decide (normE a = normE b)) := Lib.hid (decide_eq_decide.2 eq_comm)
      go_wp2_with fail
      refine (rexch_any _ _ a b _ HR.out.1 HR.out.2 hal).mono ?_
      rintro e w2 ⟨rfl, hb⟩
      replace HR := Lib.hid (And.intro (HR.out.1.on hb) (HR.out.2.on hb))
      replace KW := Lib.hid (KW.out.trans (hb.mono KW.out.size))
      clear hb
      go_wp2_with fail
      refine (equiv_any _ _ a b _ HR.out.1 HR.out.2 HST.out.1 HST.out.2).mono ?_
      rintro e w3 ⟨rfl, hb⟩
      replace HR := Lib.hid (And.intro (HR.out.1.on hb) (HR.out.2.on hb))
      replace KW := Lib.hid (KW.out.trans (hb.mono KW.out.size))
      clear hb
      have hdd : (decide (normE a = normE b) == decide (normE a = normE b)) = true := by simp
      have HDD := Lib.hid hdd
      go_wp2_with fail
      refine (equiv_any _ _ b a _ HR.out.2 HR.out.1 HST.out.2 HST.out.1).mono ?_
      rintro e w4 ⟨rfl, hb⟩
      rw [HSY.out]
      replace HR := Lib.hid (And.intro (HR.out.1.on hb) (HR.out.2.on hb))
      replace KW := Lib.hid (KW.out.trans (hb.mono KW.out.size))
      clear hb
      go_wp2_with fail
      refine (normal_any _ a _ HR.out.1 HST.out.1).mono ?_
      rintro e w5 ⟨v5, rfl, h5⟩
      have hb := h5.1.2.2
      have H5 := Lib.hid (NormMade.reads h5)
      obtain ⟨o5, c5, rfl⟩ := h5.slc
      clear h5
      replace HR := Lib.hid (And.intro (HR.out.1.on hb) (HR.out.2.on hb))
      replace KW := Lib.hid (KW.out.trans (hb.mono KW.out.size))
      clear hb
      go_wp2_with fail
      refine (normal_any _ b _ HR.out.2 HST.out.2).mono ?_
      rintro e w6 ⟨v6, rfl, h6⟩
      have hb := h6.1.2.2
      have H6 := Lib.hid (NormMade.reads h6)
      obtain ⟨o6, c6, rfl⟩ := h6.slc
      clear h6
      replace H5 := Lib.hid (H5.out.on hb)
      replace HR := Lib.hid (And.intro (HR.out.1.on hb) (HR.out.2.on hb))
      replace KW := Lib.hid (KW.out.trans (hb.mono KW.out.size))
      clear hb
      go_wp2_with fail
      refine (rstr_any _ _ (normE a) (normE b) _ H5.out H6.out).mono ?_
      rintro e w7 ⟨rfl, hb⟩
      replace HR := Lib.hid (And.intro (HR.out.1.on hb) (HR.out.2.on hb))
      replace KW := Lib.hid (KW.out.trans (hb.mono KW.out.size))
      clear hb
      go_wp2
      go_ret
      exact ⟨rfl, KW.out⟩

set_option maxRecDepth 100000 in
theorem lifted (os : Os) (started : os.Started) (H : Type) (enc : TypeId × Value → H) :
    ReturnsInHanded {} Try.checked os 4 .any (Rows.scheduleEquivalentSpec.pre6 enc Try.prog Try.f4 Rows.scheduleEquivalentRow.domain false) (Rows.scheduleEquivalentSpec.post enc Try.prog Try.f4 false true false false) := by
  refine returnsInHanded_of_change (C := Try.checked) own started (by kernel_rfl) Try.func4
    (ChangeSpec.witness6 (enc := enc) (C := Try.checked) false ⟨#[], #[.slice none 0 0, .slice none 0 0], []⟩ 8 (by kernel_rfl) (by kernel_rfl) (by kernel_rfl) (by kernel_rfl)) ?_
  intro W base args ds gs before hval0 hW hcnd _
  have hval : ∀ (j : Nat) t v, Try.f4.params[j]? = some t → args[j]? = some v → Value.okWide Try.prog W .any base t v := hval0
  have hW' := hW
  obtain ⟨p, q, hA0, hV, rfl, hfz, hnd⟩ := hW
  have hA : DataW.TrodAll enc Try.prog W 0 (fun _ => true) true Try.f4.params.toList args.toList ds p := hA0
  rw [Try.params4] at hA hval
  obtain ⟨v0, vs0, d0, ds0, p0, q0, hargs, rfl, rfl, t0, r0⟩ := trodAll_cons hA
  obtain ⟨v1, vs1, d1, ds1, p1, q1, rfl, rfl, rfl, t1, r1⟩ := trodAll_cons r0
  obtain ⟨rfl, rfl, rfl⟩ := trodAll_nil r1
  obtain rfl : args = #[v0, v1] := by cases args; simp_all
  obtain ⟨rfl, rfl⟩ := trodVars_none hV
  obtain ⟨x0, h0⟩ := open_tr (hval 0 22 v0 rfl rfl) t0
  obtain ⟨x1, h1⟩ := open_tr (hval 1 22 v1 rfl rfl) t1
  refine (walk v0 v1 x0 x1 W h0 h1).mono fun e W' ⟨he, hb⟩ => ?_
  subst he
  exact ⟨_, rfl, law_post laidOut rfl (fun _ _ => rfl) (by kernel_rfl) Try.underlying4 (by rw [Try.params4]; exact fun t ht => by simp at ht; rcases ht with  rfl ; all_goals exact ⟨by kernel_rfl, of_decide_eq_true (by kernel_rfl)⟩) hW' hb⟩

theorem over : Rows.scheduleEquivalentRow.holds Try.pinned (OpenSpec.ofChange Rows.scheduleEquivalentSpec) :=
  OpenClaim.holds_of_wide 4 Try.f4 rfl rfl rfl rfl rfl rfl rfl ⟨rfl, rfl, rfl, rfl, rfl⟩ rfl rfl rfl rfl rfl (by kernel_rfl) Try.func4 (by kernel_rfl)
    (of_decide_eq_true (by kernel_rfl)) (by unfold Func.isWrapper; first | (rw [if_pos (by decide +kernel)]; kernel_rfl) | (rw [if_neg (by decide +kernel)]; exact ⟨rfl, rfl⟩))
    (fun os started H enc _ => lifted os started H enc)

theorem proved : Rows.ScheduleEquivalentSaid := over
end Go.Proofs.Ytfdicndmebhmdaa.scheduleEquivalent
