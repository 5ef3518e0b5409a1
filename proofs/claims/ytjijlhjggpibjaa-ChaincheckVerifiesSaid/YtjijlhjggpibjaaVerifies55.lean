/-
  ChaincheckVerifies: for all histories and orders the law returns true, and what came in reads behind the call as before. No condition.
-/
import Derived.Test.YtjijlhjggpibjaaGq
import Derived.Test.YtjijlhjggpibjaaHq
import Derived.Deep.DeepCutAuto
namespace Go.Proofs.Ytjijlhjggpibjaa.chaincheckVerifies
open Go.ChangeShapes Go.WideShapes Go.ChangeAt Go.RowKit

set_option maxRecDepth 100000 in
set_option maxHeartbeats 8000000 in
theorem walk (v u : Value) (h : List Opn) (is : List Int) (W : World) (hr : ReadsO W v h ∧ ∀ x ∈ h, strOK x) (hq : Reads vi W u is) : Calls Try.prog 4 #[v, u] W (BoolMade W true) := by
  have HR := Lib.hid hr.1
  have HSO := Lib.hid hr.2
  obtain ⟨ao, cap, rfl, hl, hm, -, -⟩ := hr.1
  unfold maxLen at hm
  clear hr
  have HQ := Lib.hid hq
  obtain ⟨qa, qk, rfl, _, _⟩ := slcI hq
  clear hq
  go_enter Try.func4, Try.ntmps4
  have KW := Lib.hid (Below.refl W.heap.size W)
  go_wp2_with fail
  refine (awake_any _).mono ?_
  rintro e w1 ⟨rfl, hb⟩
  replace HR := Lib.hid (HR.out.on hb)
  replace KW := Lib.hid (KW.out.trans (hb.mono KW.out.size))
  replace HQ := Lib.hid (HQ.out.keep hb)
  clear hb
  go_wp2_with fail
  refine (large_any _ h w1 HR.out).mono ?_
  rintro e ws ⟨r, rfl, rfl, hsm⟩
  cases r with
  | true =>
    go_wp2
    go_ret
    exact ⟨rfl, KW.out⟩
  | false =>
    have HS := Lib.hid ((hsm rfl).2.1 HSO.out)
    have HL8 := Lib.hid (hsm rfl)
    clear hsm HSO
    by_cases hlen : 20 < is.length
    · have h1 : decide ((20 : Int) < (is.length : Int)) = true := decide_eq_true (by omega)
      go_wp2
      go_ret
      exact ⟨rfl, KW.out⟩
    · have h1 : decide ((20 : Int) < (is.length : Int)) = false := decide_eq_false (by omega)
      go_wp2_with fail
      refine (ver_any _ _ h is _ HR.out HQ.out HS.out (by omega)).mono ?_
      rintro e w4 ⟨rfl, hb⟩
      replace HR := Lib.hid (HR.out.on hb)
      replace KW := Lib.hid (KW.out.trans (hb.mono KW.out.size))
      replace HQ := Lib.hid (HQ.out.keep hb)
      clear hb
      go_wp2_with fail
      refine (rver_any _ _ h is _ HR.out HQ.out HS.out (by omega)).mono ?_
      rintro e w5 ⟨rfl, hb⟩
      replace HR := Lib.hid (HR.out.on hb)
      replace KW := Lib.hid (KW.out.trans (hb.mono KW.out.size))
      clear hb
      cases verB h is with
      | false =>
        go_wp2
        go_ret
        exact ⟨rfl, KW.out⟩
      | true =>
        go_wp2
        go_ret
        exact ⟨rfl, KW.out⟩

set_option maxRecDepth 100000 in
theorem lifted (os : Os) (started : os.Started) (H : Type) (enc : TypeId × Value → H) :
    ReturnsInHanded {} Try.checked os 4 .any (Rows.chaincheckVerifiesSpec.pre6 enc Try.prog Try.f4 Rows.chaincheckVerifiesRow.domain false) (Rows.chaincheckVerifiesSpec.post enc Try.prog Try.f4 false true false false) := by
  refine returnsInHanded_of_change (C := Try.checked) own started (by kernel_rfl) Try.func4
    (ChangeSpec.witness6 (enc := enc) (C := Try.checked) false ⟨#[], #[.slice none 0 0, .slice none 0 0], []⟩ 8 (by kernel_rfl) (by kernel_rfl) (by kernel_rfl) (by kernel_rfl)) ?_
  intro W base args ds gs before hval0 hW hcnd _
  have hval : ∀ (j : Nat) t v, Try.f4.params[j]? = some t → args[j]? = some v → Value.okWide Try.prog W .any base t v := hval0
  have hW' := hW
  obtain ⟨p, q, hA0, hV, rfl, hfz, hnd⟩ := hW
  have hA : DataW.TrodAll enc Try.prog W 0 (fun _ => true) true Try.f4.params.toList args.toList ds p := hA0
  rw [Try.params4] at hA hval
  obtain ⟨v0, vs0, d0, ds0, p0, q0, hargs, rfl, rfl, t0, r0⟩ := trodAll_cons hA
  obtain ⟨v1, vs1, d1, ds1, p1, q1, rfl, rfl, rfl, t1, r1⟩ := trodAll_cons r0
  obtain ⟨rfl, rfl, rfl⟩ := trodAll_nil r1
  obtain rfl : args = #[v0, v1] := by cases args; simp_all
  obtain ⟨rfl, rfl⟩ := trodVars_none hV
  obtain ⟨x0, h0⟩ := open_ops (hval 0 22 v0 rfl rfl) t0
  obtain ⟨x1, h1⟩ := open_ilist (hval 1 25 v1 rfl rfl) t1
  refine (walk v0 v1 x0 x1 W h0 h1).mono fun e W' ⟨he, hb⟩ => ?_
  subst he
  exact ⟨_, rfl, law_post laidOut rfl (fun _ _ => rfl) (by kernel_rfl) Try.underlying4 (by rw [Try.params4]; exact fun t ht => by simp at ht; rcases ht with  rfl | rfl ; all_goals exact ⟨by kernel_rfl, of_decide_eq_true (by kernel_rfl)⟩) hW' hb⟩

theorem over : Rows.chaincheckVerifiesRow.holds Try.pinned (OpenSpec.ofChange Rows.chaincheckVerifiesSpec) :=
  OpenClaim.holds_of_wide 4 Try.f4 rfl rfl rfl rfl rfl rfl rfl ⟨rfl, rfl, rfl, rfl, rfl⟩ rfl rfl rfl rfl rfl (by kernel_rfl) Try.func4 (by kernel_rfl)
    (of_decide_eq_true (by kernel_rfl)) (by unfold Func.isWrapper; first | (rw [if_pos (by decide +kernel)]; kernel_rfl) | (rw [if_neg (by decide +kernel)]; exact ⟨rfl, rfl⟩))
    (fun os started H enc _ => lifted os started H enc)

theorem proved : Rows.ChaincheckVerifiesSaid := over
end Go.Proofs.Ytjijlhjggpibjaa.chaincheckVerifies
