/-
  HistoryCut: for all histories and times the law returns true, and what came in reads behind the call as before. No condition.
-/
import Derived.Test.YtnpfalloelmflaaRa
import Derived.Test.YtnpfalloelmflaaRc
import Derived.Test.YtnpfalloelmflaaRs
import Derived.Test.YtnpfalloelmflaaHs
import Derived.Test.YtnpfalloelmflaaHz
import Derived.Test.YtnpfalloelmflaaHq
import Derived.Deep.DeepCutAuto
namespace Go.Proofs.Ytnpfalloelmflaa.historyCut
open Go.ChangeShapes Go.WideShapes Go.ChangeAt Go.RowKit

theorem small_cut {h : List Opn} (hs : SmallH h) (t : Int) : SmallH (cutL h t) := by
  refine ⟨Nat.le_trans (cutL_len h t) hs.1, fun o ho => ?_⟩
  unfold cutL at ho
  obtain ⟨x, hx, rfl⟩ := List.mem_map.1 ho
  have h1 := hs.2 x (List.mem_filter.1 hx).1
  rw [cutO_add]
  unfold cutO
  split
  · exact ⟨h1.1, Nat.zero_le _, h1.2.2.1, fun s hq => by cases hq⟩
  · exact h1

set_option maxRecDepth 100000 in
set_option maxHeartbeats 8000000 in
theorem walk (v : Value) (h : List Opn) (s t : Int) (W : World) (hr : ReadsO W v h) : Calls Try.prog 5 #[v, .int .i64 s, .int .i64 t] W (BoolMade W true) := by
  have HR := Lib.hid hr
  have HSM := Lib.hid (rsmall_any v h 20 W hr)
  obtain ⟨ao, cap, rfl, hl, hm, -, -⟩ := hr
  unfold maxLen at hm
  go_enter Try.func5, Try.ntmps5
  have KW := Lib.hid (Below.refl W.heap.size W)
  by_cases hs : smallB h 20 = true
  · have HS := Lib.hid (SmallH.of (by decide) hs)
    have HSC := Lib.hid (small_cut HS.out s)
    rw [hs] at HSM
    clear hs
    go_wp2_with fail
    refine (HSM.out).mono ?_
    rintro e W ⟨rfl, rfl⟩
    go_wp2_with fail
    refine (cut_any _ h s W HR.out HS.out).mono ?_
    rintro e w1 ⟨x, rfl, hx, hb⟩
    replace HR := Lib.hid (HR.out.on hb)
    replace KW := Lib.hid (KW.out.trans (hb.mono KW.out.size))
    have HX := Lib.hid (hx)
    clear hb hx
    go_wp2_with fail
    refine (rcut_any _ h s w1 HR.out HS.out.1).mono ?_
    rintro e w2 ⟨y, rfl, hy, hb⟩
    replace HR := Lib.hid (HR.out.on hb)
    replace KW := Lib.hid (KW.out.trans (hb.mono KW.out.size))
    replace HX := Lib.hid (HX.out.on hb)
    have HY := Lib.hid (hy)
    clear hb hy
    by_cases hw : wellB h = true
    · have HWC := Lib.hid (well_yes (well_cut (well_of hw) s))
      have HW := Lib.hid (hw)
      clear hw
      go_wp2_with fail
      refine (rsame54_any x y (cutL h s) (cutL h s) _ HX.out HY.out).mono ?_
      rintro e w3 ⟨rfl, hb⟩
      replace HR := Lib.hid (HR.out.on hb)
      replace KW := Lib.hid (KW.out.trans (hb.mono KW.out.size))
      replace HX := Lib.hid (HX.out.on hb)
      replace HY := Lib.hid (HY.out.on hb)
      clear hb
      rw [eqO_yes rfl]
      go_wp2_with fail
      refine (rwell_any _ h _ HR.out HS.out).mono ?_
      rintro e w4 ⟨rfl, hb⟩
      replace HR := Lib.hid (HR.out.on hb)
      replace KW := Lib.hid (KW.out.trans (hb.mono KW.out.size))
      replace HX := Lib.hid (HX.out.on hb)
      replace HY := Lib.hid (HY.out.on hb)
      clear hb
      rw [HW.out]
      go_wp2_with fail
      refine (rwell_any x (cutL h s) _ HX.out HSC.out).mono ?_
      rintro e w5 ⟨rfl, hb⟩
      replace HR := Lib.hid (HR.out.on hb)
      replace KW := Lib.hid (KW.out.trans (hb.mono KW.out.size))
      replace HX := Lib.hid (HX.out.on hb)
      replace HY := Lib.hid (HY.out.on hb)
      clear hb
      rw [HWC.out]
      go_wp2_with fail
      refine (awake_any _).mono ?_
      rintro e w6 ⟨rfl, hb⟩
      replace HR := Lib.hid (HR.out.on hb)
      replace KW := Lib.hid (KW.out.trans (hb.mono KW.out.size))
      replace HX := Lib.hid (HX.out.on hb)
      replace HY := Lib.hid (HY.out.on hb)
      clear hb
      go_wp2_with fail
      refine (cut_any x (cutL h s) t _ HX.out HSC.out).mono ?_
      rintro e w7 ⟨z, rfl, hz, hb⟩
      replace HR := Lib.hid (HR.out.on hb)
      replace KW := Lib.hid (KW.out.trans (hb.mono KW.out.size))
      replace HX := Lib.hid (HX.out.on hb)
      replace HY := Lib.hid (HY.out.on hb)
      have HZ := Lib.hid (hz)
      clear hb hz
      go_wp2_with fail
      refine (cut_any _ h (min s t) _ HR.out HS.out).mono ?_
      rintro e w8 ⟨z2, rfl, hz, hb⟩
      replace HR := Lib.hid (HR.out.on hb)
      replace KW := Lib.hid (KW.out.trans (hb.mono KW.out.size))
      replace HX := Lib.hid (HX.out.on hb)
      replace HY := Lib.hid (HY.out.on hb)
      replace HZ := Lib.hid (HZ.out.on hb)
      have HZ2 := Lib.hid (hz)
      clear hb hz
      go_wp2_with fail
      refine (rsame54_any z z2 _ _ _ HZ.out HZ2.out).mono ?_
      rintro e w9 ⟨rfl, hb⟩
      replace HR := Lib.hid (HR.out.on hb)
      replace KW := Lib.hid (KW.out.trans (hb.mono KW.out.size))
      replace HX := Lib.hid (HX.out.on hb)
      replace HY := Lib.hid (HY.out.on hb)
      replace HZ := Lib.hid (HZ.out.on hb)
      replace HZ2 := Lib.hid (HZ2.out.on hb)
      clear hb
      rw [eqO_yes (cut_cut h s t)]
      go_wp2
      go_ret
      exact ⟨rfl, KW.out⟩
    · have HW := Lib.hid (Bool.eq_false_iff.2 hw)
      clear hw
      go_wp2_with fail
      refine (rsame54_any x y (cutL h s) (cutL h s) _ HX.out HY.out).mono ?_
      rintro e w3 ⟨rfl, hb⟩
      replace HR := Lib.hid (HR.out.on hb)
      replace KW := Lib.hid (KW.out.trans (hb.mono KW.out.size))
      replace HX := Lib.hid (HX.out.on hb)
      replace HY := Lib.hid (HY.out.on hb)
      clear hb
      rw [eqO_yes rfl]
      go_wp2_with fail
      refine (rwell_any _ h _ HR.out HS.out).mono ?_
      rintro e w4 ⟨rfl, hb⟩
      replace HR := Lib.hid (HR.out.on hb)
      replace KW := Lib.hid (KW.out.trans (hb.mono KW.out.size))
      replace HX := Lib.hid (HX.out.on hb)
      replace HY := Lib.hid (HY.out.on hb)
      clear hb
      rw [HW.out]
      go_wp2_with fail
      refine (awake_any _).mono ?_
      rintro e w5 ⟨rfl, hb⟩
      replace HR := Lib.hid (HR.out.on hb)
      replace KW := Lib.hid (KW.out.trans (hb.mono KW.out.size))
      replace HX := Lib.hid (HX.out.on hb)
      replace HY := Lib.hid (HY.out.on hb)
      clear hb
      go_wp2_with fail
      refine (cut_any x (cutL h s) t _ HX.out HSC.out).mono ?_
      rintro e w6 ⟨z, rfl, hz, hb⟩
      replace HR := Lib.hid (HR.out.on hb)
      replace KW := Lib.hid (KW.out.trans (hb.mono KW.out.size))
      replace HX := Lib.hid (HX.out.on hb)
      replace HY := Lib.hid (HY.out.on hb)
      have HZ := Lib.hid (hz)
      clear hb hz
      go_wp2_with fail
      refine (cut_any _ h (min s t) _ HR.out HS.out).mono ?_
      rintro e w7 ⟨z2, rfl, hz, hb⟩
      replace HR := Lib.hid (HR.out.on hb)
      replace KW := Lib.hid (KW.out.trans (hb.mono KW.out.size))
      replace HX := Lib.hid (HX.out.on hb)
      replace HY := Lib.hid (HY.out.on hb)
      replace HZ := Lib.hid (HZ.out.on hb)
      have HZ2 := Lib.hid (hz)
      clear hb hz
      go_wp2_with fail
      refine (rsame54_any z z2 _ _ _ HZ.out HZ2.out).mono ?_
      rintro e w8 ⟨rfl, hb⟩
      replace HR := Lib.hid (HR.out.on hb)
      replace KW := Lib.hid (KW.out.trans (hb.mono KW.out.size))
      replace HX := Lib.hid (HX.out.on hb)
      replace HY := Lib.hid (HY.out.on hb)
      replace HZ := Lib.hid (HZ.out.on hb)
      replace HZ2 := Lib.hid (HZ2.out.on hb)
      clear hb
      rw [eqO_yes (cut_cut h s t)]
      go_wp2
      go_ret
      exact ⟨rfl, KW.out⟩
  · rw [Bool.eq_false_iff.2 hs] at HSM
    clear hs
    go_wp2_with fail
    refine HSM.out.mono ?_
    rintro e w1 ⟨rfl, rfl⟩
    go_wp2_with fail
    refine (awake_any _).mono ?_
    rintro e w2 ⟨rfl, hb⟩
    have HB := Lib.hid hb
    clear hb
    go_wp2
    go_ret
    exact ⟨rfl, HB.out⟩

set_option maxRecDepth 100000 in
theorem lifted (os : Os) (started : os.Started) (H : Type) (enc : TypeId × Value → H) :
    ReturnsInHanded {} Try.checked os 5 .any (Rows.historyCutSpec.pre6 enc Try.prog Try.f5 Rows.historyCutRow.domain false) (Rows.historyCutSpec.post enc Try.prog Try.f5 false true false false) := by
  refine returnsInHanded_of_change (C := Try.checked) own started (by kernel_rfl) Try.func5
    (ChangeSpec.witness6 (enc := enc) (C := Try.checked) false ⟨#[], #[.slice none 0 0, .int .i64 0, .int .i64 0], []⟩ 8 (by kernel_rfl) (by kernel_rfl) (by kernel_rfl) (by kernel_rfl)) ?_
  intro W base args ds gs before hval0 hW hcnd _
  have hval : ∀ (j : Nat) t v, Try.f5.params[j]? = some t → args[j]? = some v → Value.okWide Try.prog W .any base t v := hval0
  have hW' := hW
  obtain ⟨p, q, hA0, hV, rfl, hfz, hnd⟩ := hW
  have hA : DataW.TrodAll enc Try.prog W 0 (fun _ => true) true Try.f5.params.toList args.toList ds p := hA0
  rw [Try.params5] at hA hval
  obtain ⟨v0, vs0, d0, ds0, p0, q0, hargs, rfl, rfl, t0, r0⟩ := trodAll_cons hA
  obtain ⟨v1, vs1, d1, ds1, p1, q1, rfl, rfl, rfl, t1, r1⟩ := trodAll_cons r0
  obtain ⟨v2, vs2, d2, ds2, p2, q2, rfl, rfl, rfl, t2, r2⟩ := trodAll_cons r1
  obtain ⟨rfl, rfl, rfl⟩ := trodAll_nil r2
  obtain rfl : args = #[v0, v1, v2] := by cases args; simp_all
  obtain ⟨rfl, rfl⟩ := trodVars_none hV
  obtain ⟨x0, h0⟩ := open_ops (hval 0 22 v0 rfl rfl) t0
  obtain ⟨x1, rfl, _, _, w1⟩ := open_int Try.underlying3 (hval 1 3 v1 rfl rfl) t1
  obtain ⟨x2, rfl, _, _, w2⟩ := open_int Try.underlying3 (hval 2 3 v2 rfl rfl) t2
  refine (walk v0 x0 x1 x2 W h0).mono fun e W' ⟨he, hb⟩ => ?_
  subst he
  exact ⟨_, rfl, law_post laidOut rfl (fun _ _ => rfl) (by kernel_rfl) Try.underlying4 (by rw [Try.params5]; exact fun t ht => by simp at ht; rcases ht with  rfl | rfl ; all_goals exact ⟨by kernel_rfl, of_decide_eq_true (by kernel_rfl)⟩) hW' hb⟩

theorem over : Rows.historyCutRow.holds Try.pinned (OpenSpec.ofChange Rows.historyCutSpec) :=
  OpenClaim.holds_of_wide 5 Try.f5 rfl rfl rfl rfl rfl rfl rfl ⟨rfl, rfl, rfl, rfl, rfl⟩ rfl rfl rfl rfl rfl (by kernel_rfl) Try.func5 (by kernel_rfl)
    (of_decide_eq_true (by kernel_rfl)) (by unfold Func.isWrapper; first | (rw [if_pos (by decide +kernel)]; kernel_rfl) | (rw [if_neg (by decide +kernel)]; exact ⟨rfl, rfl⟩))
    (fun os started H enc _ => lifted os started H enc)

theorem proved : Rows.HistoryCutSaid := over
end Go.Proofs.Ytnpfalloelmflaa.historyCut
