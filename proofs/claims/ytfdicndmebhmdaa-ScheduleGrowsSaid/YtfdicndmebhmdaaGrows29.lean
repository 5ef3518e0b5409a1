/-
  ScheduleGrows: for all arguments the law returns true, and what came in reads behind the call as before. No condition.
-/
import Derived.Test.YtfdicndmebhmdaaFn
import Derived.Test.YtfdicndmebhmdaaNa
import Derived.Test.YtfdicndmebhmdaaHq
import Derived.Deep.DeepCutAuto
namespace Go.Proofs.Ytfdicndmebhmdaa.scheduleGrows
open Go.ChangeShapes Go.WideShapes Go.ChangeAt Go.RowKit

theorem grow1 (a b : List Ev) : prfx a (a ++ b) = true := prfx_self a b
theorem grow2 (a b : List Ev) : prfx (normE a) (normE (a ++ b)) = true := by
  have h1 : Prj a (normE a) := by rw [normE_eq]; exact (norm_eqv rfl).prj
  have h2 : Prj (a ++ b) (normE (a ++ b)) := by rw [normE_eq]; exact (norm_eqv rfl).prj
  rw [← h2.prfx, ← prfx_left h1]
  exact prfx_self a b
theorem grow3 (a b : List Ev) : prfx (a ++ b) a = decide (b = []) := by
  cases b with
  | nil => rw [List.append_nil, decide_eq_true rfl]; have h := prfx_self a []; rwa [List.append_nil] at h
  | cons x b =>
    rw [decide_eq_false (by simp), ← Bool.not_eq_true]
    intro h
    have := prfx_len h
    simp at this; omega
set_option maxRecDepth 100000 in
set_option maxHeartbeats 16000000 in
theorem walk (va vb : Value) (a b : List Ev) (W : World) (ha : ReadsE W va a) (hb : ReadsE W vb b) : Calls Try.prog 10 #[va, vb] W (BoolMade W true) := by
  have HR := Lib.hid (And.intro ha hb)
  obtain ⟨ao, cap, rfl, hl, hm, -, -⟩ := ha
  obtain ⟨bo, cap2, rfl, hl2, hm2, -, -⟩ := hb
  unfold maxLen at hm hm2
  go_enter Try.func10, Try.ntmps10
  have KW := Lib.hid (Below.refl W.heap.size W)
  go_wp2_with fail
  refine (awake_any _).mono ?_
  rintro e w1 ⟨rfl, hb⟩
  replace HR := Lib.hid (And.intro (HR.out.1.on hb) (HR.out.2.on hb))
  replace KW := Lib.hid (KW.out.trans (hb.mono KW.out.size))
  clear hb
  go_wp2_with fail
  refine (rsmall_any _ a 8 w1 HR.out.1).mono ?_
  rintro e ws ⟨rfl, rfl⟩
  cases hs : smB a 8 with
  | false =>
    go_wp2
    go_ret
    exact ⟨rfl, KW.out⟩
  | true =>
    have HSA := Lib.hid hs
    clear hs
    go_wp2_with fail
    refine (rsmall_any _ b 8 _ HR.out.2).mono ?_
    rintro e ws ⟨rfl, rfl⟩
    cases hs : smB b 8 with
    | false =>
      go_wp2
      go_ret
      exact ⟨rfl, KW.out⟩
    | true =>
      have HSB := Lib.hid hs
      clear hs
      have HSM := Lib.hid (And.intro (SmallT.of HSA.out (by decide)) (And.intro (SmallT.of HSB.out (by decide)) (And.intro (smB_of HSA.out).1 (smB_of HSB.out).1)))
      clear HSA HSB
      have HO := Lib.hid (OwnE.made (EvW ws) (Nat.le_refl _) (Nat.le_refl _) (Below.refl _ ws))
      have HBW := Lib.hid ((Below.refl ws.heap.size ws).alloc (Nat.le_refl _) (.cells #[] 29))
      go_wp2_with (at_builtin; refine append_evs rfl _ _ rfl _ _ [] a rfl HO.out rfl HR.out.1 HBW.out (by have := HSM.out.2.2.1; simp; omega) ?_)
      intro v1 w2 h1 k1
      have HO1 := Lib.hid h1
      obtain ⟨o1, c1, rfl⟩ := h1.slc
      clear h1 k1 HO HBW
      go_wp2_with (at_builtin; refine append_evs rfl _ _ rfl _ _ ([] ++ a) b rfl HO1.out rfl HR.out.2 HO1.out.1.2.2 (by have := HSM.out.2.2; simp; omega) ?_)
      intro v2 w3 h2 k2
      have HB3 := Lib.hid h2.1.2.2
      have HT := Lib.hid (h2.reads (EvW.ev h2.1.2.2))
      obtain ⟨o2, c2, rfl⟩ := h2.slc
      clear h2 k2 HO1
      have hb := HB3.out
      replace HR := Lib.hid (And.intro (HR.out.1.on hb) (HR.out.2.on hb))
      replace KW := Lib.hid (KW.out.trans (hb.mono KW.out.size))
      clear hb
      clear HB3
      obtain ⟨t, ht⟩ : ∃ t, t = a ++ b := ⟨_, rfl⟩
      have HTE := Lib.hid ht
      have HST : Hid (SmallT t ∧ t.length ≤ 1000) := Lib.hid (by
        subst ht
        have h1 := HSM.out
        refine ⟨⟨by simp; omega, fun e he => ?_⟩, by simp; omega⟩
        rcases List.mem_append.1 he with q | q
        · exact h1.1.2 e q
        · exact h1.2.1.2 e q)
      rw [← ht] at HT ⊢
      clear ht
      go_wp2_with fail
      refine (prefix_any _ _ a t _ HR.out.1 HT.out (by have := HSM.out.1.1; omega) HST.out.2).mono ?_
      rintro e w4 ⟨rfl, hb⟩
      rw [show prfx a t = true by rw [HTE.out]; exact grow1 a b]
      replace HT := Lib.hid (HT.out.on hb)
      replace HR := Lib.hid (And.intro (HR.out.1.on hb) (HR.out.2.on hb))
      replace KW := Lib.hid (KW.out.trans (hb.mono KW.out.size))
      clear hb
      go_wp2_with fail
      refine (normal_any _ a _ HR.out.1 HSM.out.1).mono ?_
      rintro e w5 ⟨v5, rfl, h5⟩
      have hb := h5.1.2.2
      have H5 := Lib.hid (NormMade.reads h5)
      have HL5 : Hid ((normE a).length ≤ 1000) := Lib.hid (by rw [normE_eq, norm_len rfl]; have := HSM.out.1.1; omega)
      obtain ⟨o5, c5, rfl⟩ := h5.slc
      clear h5
      replace HT := Lib.hid (HT.out.on hb)
      replace HR := Lib.hid (And.intro (HR.out.1.on hb) (HR.out.2.on hb))
      replace KW := Lib.hid (KW.out.trans (hb.mono KW.out.size))
      clear hb
      go_wp2_with fail
      refine (normal_any _ t _ HT.out HST.out.1).mono ?_
      rintro e w6 ⟨v6, rfl, h6⟩
      have hb := h6.1.2.2
      have H6 := Lib.hid (NormMade.reads h6)
      have HL6 : Hid ((normE t).length ≤ 1000) := Lib.hid (by rw [normE_eq, norm_len rfl]; have := HST.out.2; omega)
      obtain ⟨o6, c6, rfl⟩ := h6.slc
      clear h6
      replace H5 := Lib.hid (H5.out.on hb)
      replace HT := Lib.hid (HT.out.on hb)
      replace HR := Lib.hid (And.intro (HR.out.1.on hb) (HR.out.2.on hb))
      replace KW := Lib.hid (KW.out.trans (hb.mono KW.out.size))
      clear hb
      go_wp2_with fail
      refine (prefix_any _ _ (normE a) (normE t) _ H5.out H6.out HL5.out HL6.out).mono ?_
      rintro e w7 ⟨rfl, hb⟩
      rw [show prfx (normE a) (normE t) = true by rw [HTE.out]; exact grow2 a b]
      replace HT := Lib.hid (HT.out.on hb)
      replace HR := Lib.hid (And.intro (HR.out.1.on hb) (HR.out.2.on hb))
      replace KW := Lib.hid (KW.out.trans (hb.mono KW.out.size))
      clear hb
      go_wp2_with fail
      refine (prefix_any _ _ t a _ HT.out HR.out.1 HST.out.2 (by have := HSM.out.1.1; omega)).mono ?_
      rintro e w8 ⟨rfl, hb⟩
      rw [show prfx t a = decide (b = []) by rw [HTE.out]; exact grow3 a b]
      replace HR := Lib.hid (And.intro (HR.out.1.on hb) (HR.out.2.on hb))
      replace KW := Lib.hid (KW.out.trans (hb.mono KW.out.size))
      clear hb
      cases b with
      | nil =>
        go_wp2
        go_ret
        exact ⟨rfl, KW.out⟩
      | cons x b =>
        rw [decide_eq_false (by simp)]
        go_wp2
        go_ret
        exact ⟨rfl, KW.out⟩

set_option maxRecDepth 100000 in
theorem lifted (os : Os) (started : os.Started) (H : Type) (enc : TypeId × Value → H) :
    ReturnsInHanded {} Try.checked os 10 .any (Rows.scheduleGrowsSpec.pre6 enc Try.prog Try.f10 Rows.scheduleGrowsRow.domain false) (Rows.scheduleGrowsSpec.post enc Try.prog Try.f10 false true false false) := by
  refine returnsInHanded_of_change (C := Try.checked) own started (by kernel_rfl) Try.func10
    (ChangeSpec.witness6 (enc := enc) (C := Try.checked) false ⟨#[], #[.slice none 0 0, .slice none 0 0], []⟩ 8 (by kernel_rfl) (by kernel_rfl) (by kernel_rfl) (by kernel_rfl)) ?_
  intro W base args ds gs before hval0 hW hcnd _
  have hval : ∀ (j : Nat) t v, Try.f10.params[j]? = some t → args[j]? = some v → Value.okWide Try.prog W .any base t v := hval0
  have hW' := hW
  obtain ⟨p, q, hA0, hV, rfl, hfz, hnd⟩ := hW
  have hA : DataW.TrodAll enc Try.prog W 0 (fun _ => true) true Try.f10.params.toList args.toList ds p := hA0
  rw [Try.params10] at hA hval
  obtain ⟨v0, vs0, d0, ds0, p0, q0, hargs, rfl, rfl, t0, r0⟩ := trodAll_cons hA
  obtain ⟨v1, vs1, d1, ds1, p1, q1, rfl, rfl, rfl, t1, r1⟩ := trodAll_cons r0
  obtain ⟨rfl, rfl, rfl⟩ := trodAll_nil r1
  obtain rfl : args = #[v0, v1] := by cases args; simp_all
  obtain ⟨rfl, rfl⟩ := trodVars_none hV
  obtain ⟨x0, h0⟩ := open_tr (hval 0 22 v0 rfl rfl) t0
  obtain ⟨x1, h1⟩ := open_tr (hval 1 22 v1 rfl rfl) t1
  refine (walk v0 v1 x0 x1 W h0 h1).mono fun e W' ⟨he, hb⟩ => ?_
  subst he
  exact ⟨_, rfl, law_post laidOut rfl (fun _ _ => rfl) (by kernel_rfl) Try.underlying4 (by rw [Try.params10]; exact fun t ht => by simp at ht; rcases ht with  rfl ; all_goals exact ⟨by kernel_rfl, of_decide_eq_true (by kernel_rfl)⟩) hW' hb⟩

theorem over : Rows.scheduleGrowsRow.holds Try.pinned (OpenSpec.ofChange Rows.scheduleGrowsSpec) :=
  OpenClaim.holds_of_wide 10 Try.f10 rfl rfl rfl rfl rfl rfl rfl ⟨rfl, rfl, rfl, rfl, rfl⟩ rfl rfl rfl rfl rfl (by kernel_rfl) Try.func10 (by kernel_rfl)
    (of_decide_eq_true (by kernel_rfl)) (by unfold Func.isWrapper; first | (rw [if_pos (by decide +kernel)]; kernel_rfl) | (rw [if_neg (by decide +kernel)]; exact ⟨rfl, rfl⟩))
    (fun os started H enc _ => lifted os started H enc)

theorem proved : Rows.ScheduleGrowsSaid := over
end Go.Proofs.Ytfdicndmebhmdaa.scheduleGrows
