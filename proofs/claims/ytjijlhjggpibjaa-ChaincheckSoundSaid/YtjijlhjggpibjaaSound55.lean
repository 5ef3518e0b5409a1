/-
  ChaincheckSound: for all histories the law returns true, and what came in reads behind the call as before. No condition.
-/
import Derived.Test.YtjijlhjggpibjaaGi
import Derived.Test.YtjijlhjggpibjaaKd
import Derived.Test.YtjijlhjggpibjaaHq
import Derived.Deep.DeepCutAuto
namespace Go.Proofs.Ytjijlhjggpibjaa.chaincheckSound
open Go.ChangeShapes Go.WideShapes Go.ChangeAt Go.RowKit

set_option maxRecDepth 100000 in
set_option maxHeartbeats 8000000 in
theorem walk (v : Value) (h : List Opn) (W : World) (hr : ReadsO W v h ∧ ∀ x ∈ h, strOK x) : Calls Try.prog 5 #[v] W (BoolMade W true) := by
  have HR := Lib.hid hr.1
  have HSO := Lib.hid hr.2
  obtain ⟨ao, cap, rfl, hl, hm, -, -⟩ := hr.1
  unfold maxLen at hm
  clear hr
  go_enter Try.func5, Try.ntmps5
  have KW := Lib.hid (Below.refl W.heap.size W)
  go_wp2_with fail
  refine (awake_any _).mono ?_
  rintro e w1 ⟨rfl, hb⟩
  replace HR := Lib.hid (HR.out.on hb)
  replace KW := Lib.hid (KW.out.trans (hb.mono KW.out.size))
  clear hb
  go_wp2_with fail
  refine (large_any _ h w1 HR.out).mono ?_
  rintro e ws ⟨r, rfl, rfl, hsm⟩
  cases r with
  | true =>
    go_wp2
    go_ret
    exact ⟨rfl, KW.out⟩
  | false =>
    have HS := Lib.hid ((hsm rfl).2.1 HSO.out)
    have HL8 := Lib.hid (hsm rfl)
    clear hsm HSO
    go_wp2_with fail
    refine (ck_any _ h _ HR.out HS.out).mono ?_
    rintro e w2 ⟨v2, rfl, hr2, hb⟩
    obtain ⟨a2, k2, rfl, _, _⟩ := slcI hr2
    clear hr2
    replace HR := Lib.hid (HR.out.on hb)
    replace KW := Lib.hid (KW.out.trans (hb.mono KW.out.size))
    clear hb
    go_wp2_with fail
    refine (order_any _ h _ HR.out HS.out).mono ?_
    rintro e w3 ⟨v3, l, rfl, hr3, hl3, hb⟩
    replace HR := Lib.hid (HR.out.on hb)
    replace KW := Lib.hid (KW.out.trans (hb.mono KW.out.size))
    clear hb
    by_cases hz : (resR h).1 = 0
    · rw [if_pos hz] at hl3
      subst hl3
      have hwn := res_ok hz
      have HV := Lib.hid ((ordI_lin hwn.1 hwn.2).ver hwn.1)
      have hd := decide_eq_true hz
      have HLO : Hid ((intsNN (ordI h)).length ≤ 1000) := Lib.hid (by
        have h1 := (ordI_perm h).length_eq
        have h2 := List.length_filter_le (incI h) (List.range h.length)
        rw [List.length_range] at h2
        have h3 := HL8.out.1
        unfold intsNN
        rw [List.length_map, h1]
        omega)
      have H3 := Lib.hid hr3
      obtain ⟨a3, k3, rfl, _, _⟩ := slcI hr3
      rw [hd, hz]
      clear hr3 hz hd hwn
      go_wp2_with fail
      refine (ver_any _ _ h (intsNN (ordI h)) _ HR.out H3.out HS.out HLO.out).mono ?_
      rintro e w4 ⟨rfl, hb⟩
      rw [HV.out]
      replace HR := Lib.hid (HR.out.on hb)
      replace KW := Lib.hid (KW.out.trans (hb.mono KW.out.size))
      clear hb
      go_wp2
      go_ret
      exact ⟨rfl, KW.out⟩
    · rw [if_neg hz] at hl3
      subst hl3
      have hd := decide_eq_false hz
      have hne := bne_t hz
      obtain ⟨a3, k3, rfl, _, _⟩ := slcI hr3
      rw [hd]
      clear hr3 hz hd
      go_wp2
      go_ret
      exact ⟨rfl, KW.out⟩

set_option maxRecDepth 100000 in
theorem lifted (os : Os) (started : os.Started) (H : Type) (enc : TypeId × Value → H) :
    ReturnsInHanded {} Try.checked os 5 .any (Rows.chaincheckSoundSpec.pre6 enc Try.prog Try.f5 Rows.chaincheckSoundRow.domain false) (Rows.chaincheckSoundSpec.post enc Try.prog Try.f5 false true false false) := by
  refine returnsInHanded_of_change (C := Try.checked) own started (by kernel_rfl) Try.func5
    (ChangeSpec.witness6 (enc := enc) (C := Try.checked) false ⟨#[], #[.slice none 0 0], []⟩ 8 (by kernel_rfl) (by kernel_rfl) (by kernel_rfl) (by kernel_rfl)) ?_
  intro W base args ds gs before hval0 hW hcnd _
  have hval : ∀ (j : Nat) t v, Try.f5.params[j]? = some t → args[j]? = some v → Value.okWide Try.prog W .any base t v := hval0
  have hW' := hW
  obtain ⟨p, q, hA0, hV, rfl, hfz, hnd⟩ := hW
  have hA : DataW.TrodAll enc Try.prog W 0 (fun _ => true) true Try.f5.params.toList args.toList ds p := hA0
  rw [Try.params5] at hA hval
  obtain ⟨v0, vs0, d0, ds0, p0, q0, hargs, rfl, rfl, t0, r0⟩ := trodAll_cons hA
  obtain ⟨rfl, rfl, rfl⟩ := trodAll_nil r0
  obtain rfl : args = #[v0] := by cases args; simp_all
  obtain ⟨rfl, rfl⟩ := trodVars_none hV
  obtain ⟨x0, h0⟩ := open_ops (hval 0 22 v0 rfl rfl) t0
  refine (walk v0 x0 W h0).mono fun e W' ⟨he, hb⟩ => ?_
  subst he
  exact ⟨_, rfl, law_post laidOut rfl (fun _ _ => rfl) (by kernel_rfl) Try.underlying4 (by rw [Try.params5]; exact fun t ht => by simp at ht; rcases ht with  rfl ; all_goals exact ⟨by kernel_rfl, of_decide_eq_true (by kernel_rfl)⟩) hW' hb⟩

theorem over : Rows.chaincheckSoundRow.holds Try.pinned (OpenSpec.ofChange Rows.chaincheckSoundSpec) :=
  OpenClaim.holds_of_wide 5 Try.f5 rfl rfl rfl rfl rfl rfl rfl ⟨rfl, rfl, rfl, rfl, rfl⟩ rfl rfl rfl rfl rfl (by kernel_rfl) Try.func5 (by kernel_rfl)
    (of_decide_eq_true (by kernel_rfl)) (by unfold Func.isWrapper; first | (rw [if_pos (by decide +kernel)]; kernel_rfl) | (rw [if_neg (by decide +kernel)]; exact ⟨rfl, rfl⟩))
    (fun os started H enc _ => lifted os started H enc)

theorem proved : Rows.ChaincheckSoundSaid := over
end Go.Proofs.Ytjijlhjggpibjaa.chaincheckSound
