/-
  LinearCounts: for all histories and limits the law returns true, and what came in reads behind the call as before. No condition.
-/
import Derived.Test.YtgaolgfjbgflgaaLt
import Derived.Test.YtgaolgfjbgflgaaLu
import Derived.Test.YtgaolgfjbgflgaaJc
import Derived.Test.YtgaolgfjbgflgaaHq
import Derived.Deep.DeepCutAuto
namespace Go.Proofs.Ytgaolgfjbgflgaa.linearCounts
open Go.ChangeShapes Go.WideShapes Go.ChangeAt Go.RowKit

theorem cnt_bad {h : List Opn} {lim : Int} (hb : ¬ (chkL h).2 = 0 ∨ lim < 1) : cntE h lim = 1 ∧ cntN h lim = 0 := by
  have h1 : cntE h lim = 1 := by unfold cntE; rw [if_pos hb]
  exact ⟨h1, by unfold cntN; rw [h1]; rfl⟩
theorem cnt_more {h : List Opn} {lim : Int} (h0 : (chkL h).2 = 0) (h1 : 1 ≤ lim) (h2 : lim < ((C h 0 : Nat) : Int)) : cntE h lim = 5 ∧ cntN h lim = 0 := by
  have h3 : cntE h lim = 5 := by unfold cntE; rw [if_neg (by omega), if_neg (by omega)]
  exact ⟨h3, by unfold cntN; rw [h3]; rfl⟩
theorem cnt_ok {h : List Opn} {lim : Int} (h0 : (chkL h).2 = 0) (h1 : 1 ≤ lim) (h2 : ¬ lim < ((C h 0 : Nat) : Int)) : cntE h lim = 0 ∧ cntN h lim = ((C h 0 : Nat) : Int) := by
  have h3 : cntE h lim = 0 := by unfold cntE; rw [if_neg (by omega), if_pos (by omega)]
  exact ⟨h3, by unfold cntN; rw [h3]; rfl⟩
theorem C_seven {h : List Opn} (hn : h.length ≤ 7) : C h 0 ≤ 1000000 := by
  have h1 := cnt_le h (h.length + 1) 0
  have h2 := seqN_mono (Nat.le_trans (freeK_le 0 h.length) hn)
  have h3 : seqN 7 ≤ 1000000 := by decide
  unfold C
  omega

set_option maxRecDepth 100000 in
set_option maxHeartbeats 8000000 in
theorem walk (v : Value) (h : List Opn) (lim : Int) (W : World) (hr : ReadsO W v h) (hwf : (Lit.int .i64 lim).wf = true) : Calls Try.prog 4 #[v, .int .i64 lim] W (BoolMade W true) := by
  have HR := Lib.hid hr
  obtain ⟨ao, cap, rfl, hl, hm, -, -⟩ := hr
  unfold maxLen at hm
  have hlim : lim ≤ 9223372036854775807 := by simp [Lit.wf, IntKind.min, IntKind.max, IntKind.bits, IntKind.signed] at hwf; omega
  clear hwf
  have HLIM := Lib.hid hlim
  clear hlim
  go_enter Try.func4, Try.ntmps4
  have KW := Lib.hid (Below.refl W.heap.size W)
  go_wp2_with fail
  refine (awake_any _).mono ?_
  rintro e w1 ⟨rfl, hb⟩
  replace HR := Lib.hid (HR.out.on hb)
  replace KW := Lib.hid (KW.out.trans (hb.mono KW.out.size))
  clear hb
  go_wp2_with fail
  refine (small_any _ h 7 w1 HR.out (by decide)).mono ?_
  rintro e ws ⟨r, rfl, rfl, hsm⟩
  cases r with
  | false =>
    go_wp2
    go_ret
    exact ⟨rfl, KW.out⟩
  | true =>
    have HS := Lib.hid (hsm rfl).2
    have hn7 : h.length ≤ 7 := by have := (hsm rfl).1; omega
    clear hsm
    go_wp2_with fail
    refine (lCount_any _ h lim _ HR.out HS.out (by omega) HLIM.out).mono ?_
    rintro e w2 ⟨rfl, hb⟩
    replace HR := Lib.hid (HR.out.on hb)
    replace KW := Lib.hid (KW.out.trans (hb.mono KW.out.size))
    clear hb
    go_wp2_with fail
    refine (rwell_any _ h _ HR.out HS.out).mono ?_
    rintro e w3 ⟨rfl, hb⟩
    replace HR := Lib.hid (HR.out.on hb)
    replace KW := Lib.hid (KW.out.trans (hb.mono KW.out.size))
    clear hb
    by_cases hw : wellB h = true
    · have HW := Lib.hid (well_of hw)
      have HC0 : Hid ((chkL h).2 = 0) := Lib.hid (of_decide_eq_true hw)
      rw [hw]
      clear hw
      by_cases h1 : lim < 1
      · obtain ⟨e1, e2⟩ := cnt_bad (h := h) (.inr h1)
        rw [e1, e2]
        clear e1 e2
        go_wp2
        go_ret
        exact ⟨rfl, KW.out⟩
      · have HAL : Hid ((allL h).length = C h 0) := Lib.hid (all_len HW.out)
        have hc7 := C_seven hn7
        go_wp2_with fail
        refine (rall_any _ h _ HR.out HS.out (by omega) (by rw [HAL.out]; exact hc7)).mono ?_
        rintro e w4 ⟨va, rfl, ho⟩
        replace HR := Lib.hid (HR.out.on ho.1)
        replace KW := Lib.hid (KW.out.trans (ho.1.mono KW.out.size))
        obtain ⟨xa, xk, rfl⟩ := ho.length
        rw [HAL.out]
        clear ho
        have h1' : 1 ≤ lim := by omega
        by_cases h2 : lim < ((C h 0 : Nat) : Int)
        · obtain ⟨e1, e2⟩ := cnt_more HC0.out h1' h2
          rw [e1, e2]
          clear e1 e2
          go_wp2
          go_ret
          exact ⟨rfl, KW.out⟩
        · obtain ⟨e1, e2⟩ := cnt_ok HC0.out h1' h2
          rw [e1, e2]
          clear e1 e2
          go_wp2
          go_ret
          exact ⟨rfl, KW.out⟩
    · have hnw : ¬ (chkL h).2 = 0 := fun h1 => hw (decide_eq_true h1)
      obtain ⟨e1, e2⟩ := cnt_bad (lim := lim) (.inl hnw)
      rw [Bool.eq_false_iff.2 hw, e1, e2]
      clear e1 e2 hnw hw
      go_wp2
      go_ret
      exact ⟨rfl, KW.out⟩

set_option maxRecDepth 100000 in
theorem lifted (os : Os) (started : os.Started) (H : Type) (enc : TypeId × Value → H) :
    ReturnsInHanded {} Try.checked os 4 .any (Rows.linearCountsSpec.pre6 enc Try.prog Try.f4 Rows.linearCountsRow.domain false) (Rows.linearCountsSpec.post enc Try.prog Try.f4 false true false false) := by
  refine returnsInHanded_of_change (C := Try.checked) own started (by kernel_rfl) Try.func4
    (ChangeSpec.witness6 (enc := enc) (C := Try.checked) false ⟨#[], #[.slice none 0 0, .int .i64 0], []⟩ 8 (by kernel_rfl) (by kernel_rfl) (by kernel_rfl) (by kernel_rfl)) ?_
  intro W base args ds gs before hval0 hW hcnd _
  have hval : ∀ (j : Nat) t v, Try.f4.params[j]? = some t → args[j]? = some v → Value.okWide Try.prog W .any base t v := hval0
  have hW' := hW
  obtain ⟨p, q, hA0, hV, rfl, hfz, hnd⟩ := hW
  have hA : DataW.TrodAll enc Try.prog W 0 (fun _ => true) true Try.f4.params.toList args.toList ds p := hA0
  rw [Try.params4] at hA hval
  obtain ⟨v0, vs0, d0, ds0, p0, q0, hargs, rfl, rfl, t0, r0⟩ := trodAll_cons hA
  obtain ⟨v1, vs1, d1, ds1, p1, q1, rfl, rfl, rfl, t1, r1⟩ := trodAll_cons r0
  obtain ⟨rfl, rfl, rfl⟩ := trodAll_nil r1
  obtain rfl : args = #[v0, v1] := by cases args; simp_all
  obtain ⟨rfl, rfl⟩ := trodVars_none hV
  obtain ⟨x0, h0⟩ := open_ops (hval 0 22 v0 rfl rfl) t0
  obtain ⟨x1, rfl, _, _, w1⟩ := open_int Try.underlying3 (hval 1 3 v1 rfl rfl) t1
  refine (walk v0 x0 x1 W h0 w1).mono fun e W' ⟨he, hb⟩ => ?_
  subst he
  exact ⟨_, rfl, law_post laidOut rfl (fun _ _ => rfl) (by kernel_rfl) Try.underlying4 (by rw [Try.params4]; exact fun t ht => by simp at ht; rcases ht with  rfl | rfl ; all_goals exact ⟨by kernel_rfl, of_decide_eq_true (by kernel_rfl)⟩) hW' hb⟩

theorem over : Rows.linearCountsRow.holds Try.pinned (OpenSpec.ofChange Rows.linearCountsSpec) :=
  OpenClaim.holds_of_wide 4 Try.f4 rfl rfl rfl rfl rfl rfl rfl ⟨rfl, rfl, rfl, rfl, rfl⟩ rfl rfl rfl rfl rfl (by kernel_rfl) Try.func4 (by kernel_rfl)
    (of_decide_eq_true (by kernel_rfl)) (by unfold Func.isWrapper; first | (rw [if_pos (by decide +kernel)]; kernel_rfl) | (rw [if_neg (by decide +kernel)]; exact ⟨rfl, rfl⟩))
    (fun os started H enc _ => lifted os started H enc)

theorem proved : Rows.LinearCountsSaid := over
end Go.Proofs.Ytgaolgfjbgflgaa.linearCounts
