/-
  LinearAgrees: for all histories the law returns true, and what came in reads behind the call as before. No condition.
-/
import Derived.Test.YtgaolgfjbgflgaaLt
import Derived.Test.YtgaolgfjbgflgaaKe
import Derived.Test.YtgaolgfjbgflgaaKc
import Derived.Test.YtgaolgfjbgflgaaJc
import Derived.Test.YtgaolgfjbgflgaaHq
import Derived.Deep.DeepCutAuto
namespace Go.Proofs.Ytgaolgfjbgflgaa.linearAgrees
open Go.ChangeShapes Go.WideShapes Go.ChangeAt Go.RowKit

theorem enough_bud {n : Nat} (hn : n ≤ 10) : ¬ (1114112 : Int) ≤ ((n * 2 ^ n : Nat) : Int) := by
  have h0 : 2 ^ n ≤ 2 ^ 10 := Nat.pow_le_pow_right (by omega) hn
  have h1 : n * 2 ^ n ≤ 10 * 2 ^ 10 := Nat.mul_le_mul hn h0
  omega
theorem agr_res {h : List Opn} (hn : h.length ≤ 10) {L : List Int} {b : Bool} {c : Int} (hr : LRes h 1114112 L b c) : (¬ (chkL h).2 = 0 ∧ c = 1) ∨ ((chkL h).2 = 0 ∧ b = G h 0 ∧ c = 0) := by
  rcases hr with ⟨h1 | h1, _, _, h2⟩ | ⟨h0, ⟨h1, _⟩ | ⟨h1, _, h2, h3⟩ | ⟨h1, _, h2, h3⟩⟩
  · exact .inl ⟨h1, h2⟩
  · omega
  · exact absurd h1 (enough_bud hn)
  · exact .inr ⟨h0.1, h2.trans h1.symm, h3⟩
  · exact .inr ⟨h0.1, h2.trans h1.symm, h3⟩
theorem agr_G {h : List Opn} (hw : Well h) : G h 0 = ((resR h).1 == 0) := by
  rw [Bool.eq_iff_iff, G_noReason hw, beq_iff_eq, res_zero hw]

set_option maxRecDepth 100000 in
set_option maxHeartbeats 8000000 in
theorem walk (v : Value) (h : List Opn) (W : World) (hr : ReadsO W v h) : Calls Try.prog 10 #[v] W (BoolMade W true) := by
  have HR := Lib.hid hr
  obtain ⟨ao, cap, rfl, hl, hm, -, -⟩ := hr
  unfold maxLen at hm
  go_enter Try.func10, Try.ntmps10
  have KW := Lib.hid (Below.refl W.heap.size W)
  go_wp2_with fail
  refine (awake_any _).mono ?_
  rintro e w1 ⟨rfl, hb⟩
  replace HR := Lib.hid (HR.out.on hb)
  replace KW := Lib.hid (KW.out.trans (hb.mono KW.out.size))
  clear hb
  go_wp2_with fail
  refine (small_any _ h 10 w1 HR.out (by decide)).mono ?_
  rintro e ws ⟨r, rfl, rfl, hsm⟩
  cases r with
  | false =>
    go_wp2
    go_ret
    exact ⟨rfl, KW.out⟩
  | true =>
    have HS := Lib.hid (hsm rfl).2
    have hn7 : h.length ≤ 10 := by have := (hsm rfl).1; omega
    clear hsm
    go_wp2_with fail
    refine (lCheck_any _ h 1114112 _ HR.out HS.out (by omega)).mono ?_
    rintro e w2 ⟨vl, L, gb, gc, rfl, hrl, hres, hb⟩
    replace HR := Lib.hid (HR.out.on hb)
    replace KW := Lib.hid (KW.out.trans (hb.mono KW.out.size))
    clear hb
    have HRE := Lib.hid (agr_res (by omega) hres)
    obtain ⟨la, lk, rfl, _, _⟩ := slcI hrl
    clear hres hrl
    go_wp2_with fail
    refine (ck_any _ h _ HR.out HS.out).mono ?_
    rintro e w3 ⟨vq, rfl, hrq, hb⟩
    replace HR := Lib.hid (HR.out.on hb)
    replace KW := Lib.hid (KW.out.trans (hb.mono KW.out.size))
    clear hb
    obtain ⟨qa, qk, rfl, _, _⟩ := slcI hrq
    clear hrq
    rcases HRE.out with ⟨h0, rfl⟩ | ⟨h0, hgb, rfl⟩
    · rw [res_one h0]
      clear HRE h0
      go_wp2
      go_ret
      exact ⟨rfl, KW.out⟩
    · have HG := Lib.hid (hgb.trans (agr_G (chk_well.1 h0)))
      clear HRE h0 hgb
      generalize (resR h).1 = q at *
      by_cases hz : q = 0
      · subst hz
        obtain rfl : gb = true := HG.out
        clear HG
        go_wp2
        go_ret
        exact ⟨rfl, KW.out⟩
      · have e1 := beq_f hz
        obtain rfl : gb = false := HG.out.trans e1
        clear HG
        go_wp2
        go_ret
        exact ⟨rfl, KW.out⟩

set_option maxRecDepth 100000 in
theorem lifted (os : Os) (started : os.Started) (H : Type) (enc : TypeId × Value → H) :
    ReturnsInHanded {} Try.checked os 10 .any (Rows.linearAgreesSpec.pre6 enc Try.prog Try.f10 Rows.linearAgreesRow.domain false) (Rows.linearAgreesSpec.post enc Try.prog Try.f10 false true false false) := by
  refine returnsInHanded_of_change (C := Try.checked) own started (by kernel_rfl) Try.func10
    (ChangeSpec.witness6 (enc := enc) (C := Try.checked) false ⟨#[], #[.slice none 0 0], []⟩ 8 (by kernel_rfl) (by kernel_rfl) (by kernel_rfl) (by kernel_rfl)) ?_
  intro W base args ds gs before hval0 hW hcnd _
  have hval : ∀ (j : Nat) t v, Try.f10.params[j]? = some t → args[j]? = some v → Value.okWide Try.prog W .any base t v := hval0
  have hW' := hW
  obtain ⟨p, q, hA0, hV, rfl, hfz, hnd⟩ := hW
  have hA : DataW.TrodAll enc Try.prog W 0 (fun _ => true) true Try.f10.params.toList args.toList ds p := hA0
  rw [Try.params10] at hA hval
  obtain ⟨v0, vs0, d0, ds0, p0, q0, hargs, rfl, rfl, t0, r0⟩ := trodAll_cons hA
  obtain ⟨rfl, rfl, rfl⟩ := trodAll_nil r0
  obtain rfl : args = #[v0] := by cases args; simp_all
  obtain ⟨rfl, rfl⟩ := trodVars_none hV
  obtain ⟨x0, h0⟩ := open_ops (hval 0 22 v0 rfl rfl) t0
  refine (walk v0 x0 W h0).mono fun e W' ⟨he, hb⟩ => ?_
  subst he
  exact ⟨_, rfl, law_post laidOut rfl (fun _ _ => rfl) (by kernel_rfl) Try.underlying4 (by rw [Try.params10]; exact fun t ht => by simp at ht; rcases ht with  rfl ; all_goals exact ⟨by kernel_rfl, of_decide_eq_true (by kernel_rfl)⟩) hW' hb⟩

theorem over : Rows.linearAgreesRow.holds Try.pinned (OpenSpec.ofChange Rows.linearAgreesSpec) :=
  OpenClaim.holds_of_wide 10 Try.f10 rfl rfl rfl rfl rfl rfl rfl ⟨rfl, rfl, rfl, rfl, rfl⟩ rfl rfl rfl rfl rfl (by kernel_rfl) Try.func10 (by kernel_rfl)
    (of_decide_eq_true (by kernel_rfl)) (by unfold Func.isWrapper; first | (rw [if_pos (by decide +kernel)]; kernel_rfl) | (rw [if_neg (by decide +kernel)]; exact ⟨rfl, rfl⟩))
    (fun os started H enc _ => lifted os started H enc)

theorem proved : Rows.LinearAgreesSaid := over
end Go.Proofs.Ytgaolgfjbgflgaa.linearAgrees
