/-
  LinearFinds: for all histories the law returns true, and what came in reads behind the call as before. No condition.
-/
import Derived.Test.YtgaolgfjbgflgaaLt
import Derived.Test.YtgaolgfjbgflgaaKd
import Derived.Test.YtgaolgfjbgflgaaJc
import Derived.Test.YtgaolgfjbgflgaaHq
import Derived.Deep.DeepCutAuto
namespace Go.Proofs.Ytgaolgfjbgflgaa.linearFinds
open Go.ChangeShapes Go.WideShapes Go.ChangeAt Go.RowKit

theorem find_res {h : List Opn} {bud : Int} {L : List Int} {c : Int} (hr : LRes h bud L true c) : c = 0 ∧ L = intsN (pathG h 0) ∧ G h 0 = true ∧ (chkL h).2 = 0 := by
  rcases hr with ⟨_, _, h1, _⟩ | ⟨h0, ⟨_, _, h1, _⟩ | ⟨_, _, h1, _⟩ | ⟨h1, h2, _, h3⟩⟩
  · cases h1
  · cases h1
  · cases h1
  · exact ⟨h3, h2, h1, h0.1⟩
theorem lin_len {h : List Opn} {l : List Nat} (hl : LinD h l) : (intsN l).length ≤ h.length := by
  unfold intsN
  rw [List.length_map]
  have h1 := nodup_len_le hl.nodup (L := List.range h.length) fun x hx => List.mem_range.2 (hl.lt x hx)
  rwa [List.length_range] at h1

set_option maxRecDepth 100000 in
set_option maxHeartbeats 8000000 in
theorem walk (v : Value) (h : List Opn) (W : World) (hr : ReadsO W v h) : Calls Try.prog 11 #[v] W (BoolMade W true) := by
  have HR := Lib.hid hr
  obtain ⟨ao, cap, rfl, hl, hm, -, -⟩ := hr
  unfold maxLen at hm
  go_enter Try.func11, Try.ntmps11
  have KW := Lib.hid (Below.refl W.heap.size W)
  go_wp2_with fail
  refine (awake_any _).mono ?_
  rintro e w1 ⟨rfl, hb⟩
  replace HR := Lib.hid (HR.out.on hb)
  replace KW := Lib.hid (KW.out.trans (hb.mono KW.out.size))
  clear hb
  go_wp2_with fail
  refine (small_any _ h 12 w1 HR.out (by decide)).mono ?_
  rintro e ws ⟨r, rfl, rfl, hsm⟩
  cases r with
  | false =>
    go_wp2
    go_ret
    exact ⟨rfl, KW.out⟩
  | true =>
    have HS := Lib.hid (hsm rfl).2
    have hn7 : h.length ≤ 12 := by have := (hsm rfl).1; omega
    clear hsm
    go_wp2_with fail
    refine (lCheck_any _ h 1114112 _ HR.out HS.out (by omega)).mono ?_
    rintro e w2 ⟨vl, L, gb, gc, rfl, hrl, hres, hb⟩
    replace HR := Lib.hid (HR.out.on hb)
    replace KW := Lib.hid (KW.out.trans (hb.mono KW.out.size))
    clear hb
    have HRL := Lib.hid hrl
    have HRE := Lib.hid hres
    obtain ⟨la, lk, rfl, _, _⟩ := slcI hrl
    clear hres hrl
    cases gb with
    | false =>
      clear HRE
      by_cases hz : gc = 0
      · have e1 := bne_f hz
        clear hz
        go_wp2
        go_ret
        exact ⟨rfl, KW.out⟩
      · have e1 := bne_t hz
        clear hz
        go_wp2
        go_ret
        exact ⟨rfl, KW.out⟩
    | true =>
      obtain ⟨rfl, hL, hg, h0⟩ := find_res HRE.out
      have HW := Lib.hid (chk_well.1 h0)
      have HLIN := Lib.hid (found_lin HW.out hg)
      have hll : L.length ≤ 12 := by have h9 := lin_len HLIN.out; rw [← hL] at h9; omega
      have HWI : Hid (rwitB h L = true) := Lib.hid (by rw [wit_all HW.out, hL]; exact HLIN.out.wit HW.out _ [] rfl)
      have HVE : Hid (verB h L = true) := Lib.hid (by rw [hL]; exact HLIN.out.ver HW.out)
      have HLG : Hid (legB h L = true) := Lib.hid (by rw [hL]; exact HLIN.out.legal)
      clear hL hg h0 HRE
      go_wp2_with fail
      refine (lwit_any _ _ h L _ HR.out HRL.out HS.out (by omega)).mono ?_
      rintro e w3 ⟨rfl, hb⟩
      replace HR := Lib.hid (HR.out.on hb)
      replace KW := Lib.hid (KW.out.trans (hb.mono KW.out.size))
      replace HRL := Lib.hid (HRL.out.keep hb)
      clear hb
      rw [HWI.out]
      go_wp2_with fail
      refine (ver_any _ _ h L _ HR.out HRL.out HS.out (by omega)).mono ?_
      rintro e w4 ⟨rfl, hb⟩
      replace HR := Lib.hid (HR.out.on hb)
      replace KW := Lib.hid (KW.out.trans (hb.mono KW.out.size))
      replace HRL := Lib.hid (HRL.out.keep hb)
      clear hb
      rw [HVE.out]
      go_wp2_with fail
      refine (legal_any _ _ h L _ HR.out HRL.out HS.out (by omega)).mono ?_
      rintro e w5 ⟨rfl, hb⟩
      replace HR := Lib.hid (HR.out.on hb)
      replace KW := Lib.hid (KW.out.trans (hb.mono KW.out.size))
      replace HRL := Lib.hid (HRL.out.keep hb)
      clear hb
      rw [HLG.out]
      go_wp2
      go_ret
      exact ⟨rfl, KW.out⟩

set_option maxRecDepth 100000 in
theorem lifted (os : Os) (started : os.Started) (H : Type) (enc : TypeId × Value → H) :
    ReturnsInHanded {} Try.checked os 11 .any (Rows.linearFindsSpec.pre6 enc Try.prog Try.f11 Rows.linearFindsRow.domain false) (Rows.linearFindsSpec.post enc Try.prog Try.f11 false true false false) := by
  refine returnsInHanded_of_change (C := Try.checked) own started (by kernel_rfl) Try.func11
    (ChangeSpec.witness6 (enc := enc) (C := Try.checked) false ⟨#[], #[.slice none 0 0], []⟩ 8 (by kernel_rfl) (by kernel_rfl) (by kernel_rfl) (by kernel_rfl)) ?_
  intro W base args ds gs before hval0 hW hcnd _
  have hval : ∀ (j : Nat) t v, Try.f11.params[j]? = some t → args[j]? = some v → Value.okWide Try.prog W .any base t v := hval0
  have hW' := hW
  obtain ⟨p, q, hA0, hV, rfl, hfz, hnd⟩ := hW
  have hA : DataW.TrodAll enc Try.prog W 0 (fun _ => true) true Try.f11.params.toList args.toList ds p := hA0
  rw [Try.params11] at hA hval
  obtain ⟨v0, vs0, d0, ds0, p0, q0, hargs, rfl, rfl, t0, r0⟩ := trodAll_cons hA
  obtain ⟨rfl, rfl, rfl⟩ := trodAll_nil r0
  obtain rfl : args = #[v0] := by cases args; simp_all
  obtain ⟨rfl, rfl⟩ := trodVars_none hV
  obtain ⟨x0, h0⟩ := open_ops (hval 0 22 v0 rfl rfl) t0
  refine (walk v0 x0 W h0).mono fun e W' ⟨he, hb⟩ => ?_
  subst he
  exact ⟨_, rfl, law_post laidOut rfl (fun _ _ => rfl) (by kernel_rfl) Try.underlying4 (by rw [Try.params11]; exact fun t ht => by simp at ht; rcases ht with  rfl ; all_goals exact ⟨by kernel_rfl, of_decide_eq_true (by kernel_rfl)⟩) hW' hb⟩

theorem over : Rows.linearFindsRow.holds Try.pinned (OpenSpec.ofChange Rows.linearFindsSpec) :=
  OpenClaim.holds_of_wide 11 Try.f11 rfl rfl rfl rfl rfl rfl rfl ⟨rfl, rfl, rfl, rfl, rfl⟩ rfl rfl rfl rfl rfl (by kernel_rfl) Try.func11 (by kernel_rfl)
    (of_decide_eq_true (by kernel_rfl)) (by unfold Func.isWrapper; first | (rw [if_pos (by decide +kernel)]; kernel_rfl) | (rw [if_neg (by decide +kernel)]; exact ⟨rfl, rfl⟩))
    (fun os started H enc _ => lifted os started H enc)

theorem proved : Rows.LinearFindsSaid := over
end Go.Proofs.Ytgaolgfjbgflgaa.linearFinds
