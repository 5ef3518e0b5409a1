/-
  ChaincheckSessions: for all histories the law returns true, and what came in reads behind the call as before. No condition.
-/
import Derived.Test.YtjijlhjggpibjaaGw
import Derived.Test.YtjijlhjggpibjaaHq
import Derived.Deep.DeepCutAuto
namespace Go.Proofs.Ytjijlhjggpibjaa.chaincheckSessions
open Go.ChangeShapes Go.WideShapes Go.ChangeAt Go.RowKit

set_option maxRecDepth 100000 in
set_option maxHeartbeats 8000000 in
theorem walk (v : Value) (h : List Opn) (W : World) (hr : ReadsO W v h ∧ ∀ x ∈ h, strOK x) : Calls Try.prog 9 #[v] W (BoolMade W true) := by
  have HR := Lib.hid hr.1
  have HSO := Lib.hid hr.2
  obtain ⟨ao, cap, rfl, hl, hm, -, -⟩ := hr.1
  unfold maxLen at hm
  clear hr
  go_enter Try.func9, Try.ntmps9
  have KW := Lib.hid (Below.refl W.heap.size W)
  go_wp2_with fail
  refine (awake_any _).mono ?_
  rintro e w1 ⟨rfl, hb⟩
  replace HR := Lib.hid (HR.out.on hb)
  replace KW := Lib.hid (KW.out.trans (hb.mono KW.out.size))
  clear hb
  go_wp2_with fail
  refine (large_any _ h w1 HR.out).mono ?_
  rintro e ws ⟨r, rfl, rfl, hsm⟩
  cases r with
  | true =>
    go_wp2
    go_ret
    exact ⟨rfl, KW.out⟩
  | false =>
    have HS := Lib.hid ((hsm rfl).2.1 HSO.out)
    have HL8 := Lib.hid (hsm rfl)
    clear hsm HSO
    go_wp2_with fail
    refine (ck_any _ h _ HR.out HS.out).mono ?_
    rintro e w2 ⟨v2, rfl, hr2, hb⟩
    obtain ⟨a2, k2, rfl, _, _⟩ := slcI hr2
    clear hr2
    replace HR := Lib.hid (HR.out.on hb)
    replace KW := Lib.hid (KW.out.trans (hb.mono KW.out.size))
    clear hb
    by_cases hz : (resR h).1 = 0
    · have HN := Lib.hid (res_ok hz).2
      rw [hz]
      clear hz
      go_wp2_with fail
      refine (monR_any _ h _ HR.out HS.out HN.out).mono ?_
      rintro e w3 ⟨rfl, hb⟩
      replace HR := Lib.hid (HR.out.on hb)
      replace KW := Lib.hid (KW.out.trans (hb.mono KW.out.size))
      clear hb
      go_wp2_with fail
      refine (ryw_any _ h _ HR.out HS.out HN.out).mono ?_
      rintro e w3 ⟨rfl, hb⟩
      replace HR := Lib.hid (HR.out.on hb)
      replace KW := Lib.hid (KW.out.trans (hb.mono KW.out.size))
      clear hb
      go_wp2_with fail
      refine (monW_any _ h _ HR.out HS.out HN.out).mono ?_
      rintro e w3 ⟨rfl, hb⟩
      replace HR := Lib.hid (HR.out.on hb)
      replace KW := Lib.hid (KW.out.trans (hb.mono KW.out.size))
      clear hb
      go_wp2_with fail
      refine (wfr_any _ h _ HR.out HS.out HN.out).mono ?_
      rintro e w3 ⟨rfl, hb⟩
      replace HR := Lib.hid (HR.out.on hb)
      replace KW := Lib.hid (KW.out.trans (hb.mono KW.out.size))
      clear hb
      go_wp2
      go_ret
      exact ⟨rfl, KW.out⟩
    · have hne := bne_t hz
      clear hz
      go_wp2
      go_ret
      exact ⟨rfl, KW.out⟩

set_option maxRecDepth 100000 in
theorem lifted (os : Os) (started : os.Started) (H : Type) (enc : TypeId × Value → H) :
    ReturnsInHanded {} Try.checked os 9 .any (Rows.chaincheckSessionsSpec.pre6 enc Try.prog Try.f9 Rows.chaincheckSessionsRow.domain false) (Rows.chaincheckSessionsSpec.post enc Try.prog Try.f9 false true false false) := by
  refine returnsInHanded_of_change (C := Try.checked) own started (by kernel_rfl) Try.func9
    (ChangeSpec.witness6 (enc := enc) (C := Try.checked) false ⟨#[], #[.slice none 0 0], []⟩ 8 (by kernel_rfl) (by kernel_rfl) (by kernel_rfl) (by kernel_rfl)) ?_
  intro W base args ds gs before hval0 hW hcnd _
  have hval : ∀ (j : Nat) t v, Try.f9.params[j]? = some t → args[j]? = some v → Value.okWide Try.prog W .any base t v := hval0
  have hW' := hW
  obtain ⟨p, q, hA0, hV, rfl, hfz, hnd⟩ := hW
  have hA : DataW.TrodAll enc Try.prog W 0 (fun _ => true) true Try.f9.params.toList args.toList ds p := hA0
  rw [Try.params9] at hA hval
  obtain ⟨v0, vs0, d0, ds0, p0, q0, hargs, rfl, rfl, t0, r0⟩ := trodAll_cons hA
  obtain ⟨rfl, rfl, rfl⟩ := trodAll_nil r0
  obtain rfl : args = #[v0] := by cases args; simp_all
  obtain ⟨rfl, rfl⟩ := trodVars_none hV
  obtain ⟨x0, h0⟩ := open_ops (hval 0 22 v0 rfl rfl) t0
  refine (walk v0 x0 W h0).mono fun e W' ⟨he, hb⟩ => ?_
  subst he
  exact ⟨_, rfl, law_post laidOut rfl (fun _ _ => rfl) (by kernel_rfl) Try.underlying4 (by rw [Try.params9]; exact fun t ht => by simp at ht; rcases ht with  rfl ; all_goals exact ⟨by kernel_rfl, of_decide_eq_true (by kernel_rfl)⟩) hW' hb⟩

theorem over : Rows.chaincheckSessionsRow.holds Try.pinned (OpenSpec.ofChange Rows.chaincheckSessionsSpec) :=
  OpenClaim.holds_of_wide 9 Try.f9 rfl rfl rfl rfl rfl rfl rfl ⟨rfl, rfl, rfl, rfl, rfl⟩ rfl rfl rfl rfl rfl (by kernel_rfl) Try.func9 (by kernel_rfl)
    (of_decide_eq_true (by kernel_rfl)) (by unfold Func.isWrapper; first | (rw [if_pos (by decide +kernel)]; kernel_rfl) | (rw [if_neg (by decide +kernel)]; exact ⟨rfl, rfl⟩))
    (fun os started H enc _ => lifted os started H enc)

theorem proved : Rows.ChaincheckSessionsSaid := over
end Go.Proofs.Ytjijlhjggpibjaa.chaincheckSessions
