/-
  LinearEarliest: for all histories the law returns true, and what came in reads behind the call as before. No condition.
-/
import Derived.Test.YtgaolgfjbgflgaaLt
import Derived.Test.YtgaolgfjbgflgaaEs
import Derived.Test.YtgaolgfjbgflgaaJc
import Derived.Test.YtgaolgfjbgflgaaHq
import Derived.Deep.DeepCutAuto
namespace Go.Proofs.Ytgaolgfjbgflgaa.linearEarliest
open Go.ChangeShapes Go.WideShapes Go.ChangeAt Go.RowKit

set_option maxRecDepth 100000 in
set_option maxHeartbeats 8000000 in
theorem walk (v : Value) (h : List Opn) (W : World) (hr : ReadsO W v h) : Calls Try.prog 7 #[v] W (BoolMade W true) := by
  have HR := Lib.hid hr
  obtain ⟨ao, cap, rfl, hl, hm, -, -⟩ := hr
  unfold maxLen at hm
  go_enter Try.func7, Try.ntmps7
  have KW := Lib.hid (Below.refl W.heap.size W)
  go_wp2_with fail
  refine (awake_any _).mono ?_
  rintro e w1 ⟨rfl, hb⟩
  replace HR := Lib.hid (HR.out.on hb)
  replace KW := Lib.hid (KW.out.trans (hb.mono KW.out.size))
  clear hb
  go_wp2_with fail
  refine (small_any _ h 7 w1 HR.out (by decide)).mono ?_
  rintro e ws ⟨r, rfl, rfl, hsm⟩
  cases r with
  | false =>
    go_wp2
    go_ret
    exact ⟨rfl, KW.out⟩
  | true =>
    have HS := Lib.hid (hsm rfl).2
    have hn7 : h.length ≤ 7 := by have := (hsm rfl).1; omega
    clear hsm
    go_wp2_with fail
    refine (ear_any _ h _ HR.out HS.out (by omega)).mono ?_
    rintro e w2 ⟨et, eb, ec, rfl, hec, hb⟩
    replace HR := Lib.hid (HR.out.on hb)
    replace KW := Lib.hid (KW.out.trans (hb.mono KW.out.size))
    clear hb
    have HEC := Lib.hid hec
    clear hec
    go_wp2_with fail
    refine (rwell_any _ h _ HR.out HS.out).mono ?_
    rintro e w3 ⟨rfl, hb⟩
    replace HR := Lib.hid (HR.out.on hb)
    replace KW := Lib.hid (KW.out.trans (hb.mono KW.out.size))
    clear hb
    by_cases hw : wellB h = true
    · have HW := Lib.hid (well_of hw)
      have HC0 : Hid ((chkL h).2 = 0) := Lib.hid (of_decide_eq_true hw)
      obtain ⟨he1, rfl⟩ : earL h = (et, eb) ∧ ec = 0 := HEC.out.elim (fun q => absurd HC0.out q.1) fun q => q.2
      have HER : Hid (rearL h = (et, eb)) := Lib.hid ((ear_ref HW.out).symm.trans he1)
      rw [hw]
      clear hw he1 HEC
      go_wp2_with fail
      refine (rear_any _ h _ HR.out HS.out hn7 HW.out).mono ?_
      rintro e w4 ⟨rfl, hb⟩
      replace HR := Lib.hid (HR.out.on hb)
      replace KW := Lib.hid (KW.out.trans (hb.mono KW.out.size))
      clear hb
      rw [HER.out]
      cases eb
      · go_wp2
        go_ret
        exact ⟨rfl, KW.out⟩
      · go_wp2
        go_ret
        exact ⟨rfl, KW.out⟩
    · have hnw : ¬ (chkL h).2 = 0 := fun h1 => hw (decide_eq_true h1)
      obtain ⟨rfl, rfl, rfl⟩ : et = 0 ∧ eb = false ∧ ec = 1 := HEC.out.elim (fun q => q.2) fun q => absurd q.1 hnw
      rw [Bool.eq_false_iff.2 hw]
      clear hnw hw HEC
      go_wp2
      go_ret
      exact ⟨rfl, KW.out⟩

set_option maxRecDepth 100000 in
theorem lifted (os : Os) (started : os.Started) (H : Type) (enc : TypeId × Value → H) :
    ReturnsInHanded {} Try.checked os 7 .any (Rows.linearEarliestSpec.pre6 enc Try.prog Try.f7 Rows.linearEarliestRow.domain false) (Rows.linearEarliestSpec.post enc Try.prog Try.f7 false true false false) := by
  refine returnsInHanded_of_change (C := Try.checked) own started (by kernel_rfl) Try.func7
    (ChangeSpec.witness6 (enc := enc) (C := Try.checked) false ⟨#[], #[.slice none 0 0], []⟩ 8 (by kernel_rfl) (by kernel_rfl) (by kernel_rfl) (by kernel_rfl)) ?_
  intro W base args ds gs before hval0 hW hcnd _
  have hval : ∀ (j : Nat) t v, Try.f7.params[j]? = some t → args[j]? = some v → Value.okWide Try.prog W .any base t v := hval0
  have hW' := hW
  obtain ⟨p, q, hA0, hV, rfl, hfz, hnd⟩ := hW
  have hA : DataW.TrodAll enc Try.prog W 0 (fun _ => true) true Try.f7.params.toList args.toList ds p := hA0
  rw [Try.params7] at hA hval
  obtain ⟨v0, vs0, d0, ds0, p0, q0, hargs, rfl, rfl, t0, r0⟩ := trodAll_cons hA
  obtain ⟨rfl, rfl, rfl⟩ := trodAll_nil r0
  obtain rfl : args = #[v0] := by cases args; simp_all
  obtain ⟨rfl, rfl⟩ := trodVars_none hV
  obtain ⟨x0, h0⟩ := open_ops (hval 0 22 v0 rfl rfl) t0
  refine (walk v0 x0 W h0).mono fun e W' ⟨he, hb⟩ => ?_
  subst he
  exact ⟨_, rfl, law_post laidOut rfl (fun _ _ => rfl) (by kernel_rfl) Try.underlying4 (by rw [Try.params7]; exact fun t ht => by simp at ht; rcases ht with  rfl ; all_goals exact ⟨by kernel_rfl, of_decide_eq_true (by kernel_rfl)⟩) hW' hb⟩

theorem over : Rows.linearEarliestRow.holds Try.pinned (OpenSpec.ofChange Rows.linearEarliestSpec) :=
  OpenClaim.holds_of_wide 7 Try.f7 rfl rfl rfl rfl rfl rfl rfl ⟨rfl, rfl, rfl, rfl, rfl⟩ rfl rfl rfl rfl rfl (by kernel_rfl) Try.func7 (by kernel_rfl)
    (of_decide_eq_true (by kernel_rfl)) (by unfold Func.isWrapper; first | (rw [if_pos (by decide +kernel)]; kernel_rfl) | (rw [if_neg (by decide +kernel)]; exact ⟨rfl, rfl⟩))
    (fun os started H enc _ => lifted os started H enc)

theorem proved : Rows.LinearEarliestSaid := over
end Go.Proofs.Ytgaolgfjbgflgaa.linearEarliest
