/-
  LinearMonotone: for all histories and times the law returns true, and what came in reads behind the call as before. No condition.
-/
import Derived.Test.YtgaolgfjbgflgaaLt
import Derived.Test.YtgaolgfjbgflgaaEp
import Derived.Test.YtgaolgfjbgflgaaJc
import Derived.Test.YtgaolgfjbgflgaaHq
import Derived.Deep.DeepCutAuto
namespace Go.Proofs.Ytgaolgfjbgflgaa.linearMonotone
open Go.ChangeShapes Go.WideShapes Go.ChangeAt Go.RowKit

theorem enough_bud {n : Nat} (hn : n ≤ 10) : ¬ (1114112 : Int) ≤ ((n * 2 ^ n : Nat) : Int) := by
  have h0 : 2 ^ n ≤ 2 ^ 10 := Nat.pow_le_pow_right (by omega) hn
  have h1 : n * 2 ^ n ≤ 10 * 2 ^ 10 := Nat.mul_le_mul hn h0
  omega
theorem mono_res {h : List Opn} (hn : h.length ≤ 10) (h0 : (chkL h).2 = 0) {L : List Int} {b : Bool} {c : Int} (hr : LRes h 1114112 L b c) : b = G h 0 ∧ c = 0 := by
  rcases hr with ⟨h1 | h1, _⟩ | ⟨_, ⟨h1, _⟩ | ⟨h1, _, h2, h3⟩ | ⟨h1, _, h2, h3⟩⟩
  · exact absurd h0 h1
  · omega
  · exact absurd h1 (enough_bud hn)
  · exact ⟨h2.trans h1.symm, h3⟩
  · exact ⟨h2.trans h1.symm, h3⟩

set_option maxRecDepth 100000 in
set_option maxHeartbeats 8000000 in
theorem walk (v : Value) (h : List Opn) (t : Int) (W : World) (hr : ReadsO W v h) : Calls Try.prog 8 #[v, .int .i64 t] W (BoolMade W true) := by
  have HR := Lib.hid hr
  obtain ⟨ao, cap, rfl, hl, hm, -, -⟩ := hr
  unfold maxLen at hm
  go_enter Try.func8, Try.ntmps8
  have KW := Lib.hid (Below.refl W.heap.size W)
  go_wp2_with fail
  refine (awake_any _).mono ?_
  rintro e w1 ⟨rfl, hb⟩
  replace HR := Lib.hid (HR.out.on hb)
  replace KW := Lib.hid (KW.out.trans (hb.mono KW.out.size))
  clear hb
  go_wp2_with fail
  refine (small_any _ h 10 w1 HR.out (by decide)).mono ?_
  rintro e ws ⟨r, rfl, rfl, hsm⟩
  cases r with
  | false =>
    go_wp2
    go_ret
    exact ⟨rfl, KW.out⟩
  | true =>
    have HS := Lib.hid (hsm rfl).2
    have hn7 : h.length ≤ 10 := by have := (hsm rfl).1; omega
    clear hsm
    go_wp2_with fail
    refine (ear_any _ h _ HR.out HS.out (by omega)).mono ?_
    rintro e w2 ⟨et, eb, ec, rfl, hec, hb⟩
    replace HR := Lib.hid (HR.out.on hb)
    replace KW := Lib.hid (KW.out.trans (hb.mono KW.out.size))
    clear hb
    have HEC := Lib.hid hec
    clear hec
    by_cases h0 : (chkL h).2 = 0
    · have HW := Lib.hid (chk_well.1 h0)
      obtain ⟨he1, rfl⟩ : earL h = (et, eb) ∧ ec = 0 := HEC.out.elim (fun q => absurd h0 q.1) fun q => q.2
      have HMO := Lib.hid (ear_mono HW.out he1 t)
      have HSC := Lib.hid (small_cut HS.out t)
      have HCL := Lib.hid (cutL_len h t)
      have HC0 : Hid ((chkL (cutL h t)).2 = 0) := Lib.hid (chk_well.2 (well_cut HW.out t))
      clear he1 h0 HEC
      go_wp2_with fail
      refine (cut_any _ h t _ HR.out HS.out).mono ?_
      rintro e w3 ⟨vc, rfl, hrc, hb⟩
      replace HR := Lib.hid (HR.out.on hb)
      replace KW := Lib.hid (KW.out.trans (hb.mono KW.out.size))
      clear hb
      generalize cutL h t = c at *
      have hcl := HCL.out
      go_wp2_with fail
      refine (lCheck_any _ c 1114112 _ hrc HSC.out (by omega)).mono ?_
      rintro e w4 ⟨vl, L, gb, gc, rfl, hrl, hres, hb⟩
      replace HR := Lib.hid (HR.out.on hb)
      replace KW := Lib.hid (KW.out.trans (hb.mono KW.out.size))
      clear hb
      obtain ⟨rfl, rfl⟩ := mono_res (by omega) HC0.out hres
      have HG := Lib.hid HMO.out
      obtain ⟨la, lk, rfl, _, _⟩ := slcI hrl
      clear hres hrl hrc
      generalize G c 0 = g at *
      cases eb with
      | false =>
        obtain rfl : g = true := HG.out.2 (.inl rfl)
        clear HG HMO
        go_wp2
        go_ret
        exact ⟨rfl, KW.out⟩
      | true =>
        by_cases htt : t < et
        · obtain rfl : g = true := HG.out.2 (.inr htt)
          have hd := decide_eq_true htt
          clear HG HMO
          go_wp2
          go_ret
          exact ⟨rfl, KW.out⟩
        · obtain rfl : g = false := Bool.eq_false_iff.2 fun q => (HG.out.1 q).elim (fun z => by cases z) htt
          have hd := decide_eq_false htt
          clear HG HMO
          go_wp2
          go_ret
          exact ⟨rfl, KW.out⟩
    · obtain ⟨rfl, rfl, rfl⟩ : et = 0 ∧ eb = false ∧ ec = 1 := HEC.out.elim (fun q => q.2) fun q => absurd q.1 h0
      clear h0 HEC
      go_wp2
      go_ret
      exact ⟨rfl, KW.out⟩

set_option maxRecDepth 100000 in
theorem lifted (os : Os) (started : os.Started) (H : Type) (enc : TypeId × Value → H) :
    ReturnsInHanded {} Try.checked os 8 .any (Rows.linearMonotoneSpec.pre6 enc Try.prog Try.f8 Rows.linearMonotoneRow.domain false) (Rows.linearMonotoneSpec.post enc Try.prog Try.f8 false true false false) := by
  refine returnsInHanded_of_change (C := Try.checked) own started (by kernel_rfl) Try.func8
    (ChangeSpec.witness6 (enc := enc) (C := Try.checked) false ⟨#[], #[.slice none 0 0, .int .i64 0], []⟩ 8 (by kernel_rfl) (by kernel_rfl) (by kernel_rfl) (by kernel_rfl)) ?_
  intro W base args ds gs before hval0 hW hcnd _
  have hval : ∀ (j : Nat) t v, Try.f8.params[j]? = some t → args[j]? = some v → Value.okWide Try.prog W .any base t v := hval0
  have hW' := hW
  obtain ⟨p, q, hA0, hV, rfl, hfz, hnd⟩ := hW
  have hA : DataW.TrodAll enc Try.prog W 0 (fun _ => true) true Try.f8.params.toList args.toList ds p := hA0
  rw [Try.params8] at hA hval
  obtain ⟨v0, vs0, d0, ds0, p0, q0, hargs, rfl, rfl, t0, r0⟩ := trodAll_cons hA
  obtain ⟨v1, vs1, d1, ds1, p1, q1, rfl, rfl, rfl, t1, r1⟩ := trodAll_cons r0
  obtain ⟨rfl, rfl, rfl⟩ := trodAll_nil r1
  obtain rfl : args = #[v0, v1] := by cases args; simp_all
  obtain ⟨rfl, rfl⟩ := trodVars_none hV
  obtain ⟨x0, h0⟩ := open_ops (hval 0 22 v0 rfl rfl) t0
  obtain ⟨x1, rfl, _, _, w1⟩ := open_int Try.underlying3 (hval 1 3 v1 rfl rfl) t1
  refine (walk v0 x0 x1 W h0).mono fun e W' ⟨he, hb⟩ => ?_
  subst he
  exact ⟨_, rfl, law_post laidOut rfl (fun _ _ => rfl) (by kernel_rfl) Try.underlying4 (by rw [Try.params8]; exact fun t ht => by simp at ht; rcases ht with  rfl | rfl ; all_goals exact ⟨by kernel_rfl, of_decide_eq_true (by kernel_rfl)⟩) hW' hb⟩

theorem over : Rows.linearMonotoneRow.holds Try.pinned (OpenSpec.ofChange Rows.linearMonotoneSpec) :=
  OpenClaim.holds_of_wide 8 Try.f8 rfl rfl rfl rfl rfl rfl rfl ⟨rfl, rfl, rfl, rfl, rfl⟩ rfl rfl rfl rfl rfl (by kernel_rfl) Try.func8 (by kernel_rfl)
    (of_decide_eq_true (by kernel_rfl)) (by unfold Func.isWrapper; first | (rw [if_pos (by decide +kernel)]; kernel_rfl) | (rw [if_neg (by decide +kernel)]; exact ⟨rfl, rfl⟩))
    (fun os started H enc _ => lifted os started H enc)

theorem proved : Rows.LinearMonotoneSaid := over
end Go.Proofs.Ytgaolgfjbgflgaa.linearMonotone
