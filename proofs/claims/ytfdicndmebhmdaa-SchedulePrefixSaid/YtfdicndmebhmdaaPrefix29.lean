/-
  SchedulePrefix: for all arguments the law returns true, and what came in reads behind the call as before. No condition.
-/
import Derived.Test.YtfdicndmebhmdaaNq
import Derived.Test.YtfdicndmebhmdaaNa
import Derived.Test.YtfdicndmebhmdaaHq
import Derived.Deep.DeepCutAuto
namespace Go.Proofs.Ytfdicndmebhmdaa.schedulePrefix
open Go.ChangeShapes Go.WideShapes Go.ChangeAt Go.RowKit

theorem ReadsK.front {E : World → List Value → Ev → Prop} {w : World} {ao : Option Addr} {n cap k : Nat} {t : List Ev} (h : ReadsK 2 E w (.slice ao n cap) t) (hk : k ≤ t.length) : ReadsK 2 E w (.slice ao k cap) (t.take k) := by
  obtain ⟨ao', cap', hv, h1, h2, h3, h4⟩ := h
  injection hv with e1 e2 e3
  subst e1 e3
  have hl : (t.take k).length = k := by rw [List.length_take]; omega
  refine ⟨ao, cap, by rw [hl], by omega, h2, h3, fun hne => ?_⟩
  obtain ⟨b, off, ha, hb, hc⟩ := h4 (fun e => hne (by rw [e]; simp))
  refine ⟨b, off, ha, hb, fun j hj => ?_⟩
  rw [hl] at hj
  obtain ⟨cs, g1, g2, g3⟩ := hc j (by omega)
  exact ⟨cs, g1, g2, by rw [List.getElem_take]; exact g3⟩
def wB (a y : List Ev) : Bool := decide (a.length ≤ y.length) && decide (normE (y.take a.length) = normE a)
theorem want_eq {a b : List Ev} : (linsE b).any (wB a) = prfx a b := by
  rw [Bool.eq_iff_iff, prfx_lins, List.any_eq_true]
  unfold wB
  simp only [Bool.and_eq_true, decide_eq_true_eq]
theorem any_take_succ {f : List Ev → Bool} {L : List (List Ev)} {p : Nat} (h : p < L.length) : (L.take (p + 1)).any f = ((L.take p).any f || f L[p]) := by
  rw [List.take_succ_eq_append_getElem h, List.any_append]; simp
theorem any_take_on {f : List Ev → Bool} {L : List (List Ev)} {p : Nat} (h : (L.take p).any f = true) : L.any f = true := by
  rw [List.any_eq_true] at h ⊢
  obtain ⟨x, h1, h2⟩ := h
  exact ⟨x, List.mem_of_mem_take h1, h2⟩
set_option maxRecDepth 100000 in
set_option maxHeartbeats 16000000 in
theorem walk (va vb : Value) (a b : List Ev) (W : World) (ha : ReadsE W va a) (hb : ReadsE W vb b) : Calls Try.prog 9 #[va, vb] W (BoolMade W true) := by
  have HR := Lib.hid (And.intro ha hb)
  obtain ⟨ao, cap, rfl, hl, hm, -, -⟩ := ha
  obtain ⟨bo, cap2, rfl, hl2, hm2, -, -⟩ := hb
  unfold maxLen at hm hm2
  go_enter Try.func9, Try.ntmps9
  have KW := Lib.hid (Below.refl W.heap.size W)
  go_wp2_with fail
  refine (awake_any _).mono ?_
  rintro e w1 ⟨rfl, hb⟩
  replace HR := Lib.hid (And.intro (HR.out.1.on hb) (HR.out.2.on hb))
  replace KW := Lib.hid (KW.out.trans (hb.mono KW.out.size))
  clear hb
  go_wp2_with fail
  refine (rsmall_any _ a 6 w1 HR.out.1).mono ?_
  rintro e ws ⟨rfl, rfl⟩
  cases hs : smB a 6 with
  | false =>
    go_wp2
    go_ret
    exact ⟨rfl, KW.out⟩
  | true =>
    have HSA := Lib.hid hs
    clear hs
    go_wp2_with fail
    refine (rsmall_any _ b 6 _ HR.out.2).mono ?_
    rintro e ws ⟨rfl, rfl⟩
    cases hs : smB b 6 with
    | false =>
      go_wp2
      go_ret
      exact ⟨rfl, KW.out⟩
    | true =>
      have HSB := Lib.hid hs
      clear hs
      have hal : a.length ≤ 6 := by have := (smB_of HSA.out).1; omega
      have hbl : b.length ≤ 6 := by have := (smB_of HSB.out).1; omega
      clear HSA HSB
      go_wp2_with fail
      refine (rall_any b.length b _ 720 ws ws rfl (by omega) (by omega) HR.out.2 (Below.refl _ _)).mono ?_
      rintro e w2 ⟨v2, rfl, hrs, hb⟩
      have hrl : rallE b.length b 720 = linsE b := by
        unfold rallE
        rw [if_neg (by decide), linsE_eq]
        have h1 := lins_720 hbl
        rw [linsE_eq] at h1
        exact List.take_of_length_le (by omega)
      rw [hrl] at hrs
      have hyl : ∀ y, y ∈ linsE b → y.length ≤ 6 := fun y hy => by have := (mem_lins.1 hy).len; omega
      have hll := lins_720 hbl
      have HEND : Hid ((linsE b).any (wB a) = prfx a b) := Lib.hid want_eq
      generalize linsE b = LL at *
      obtain ⟨ra, rc, rfl⟩ := hrs.slc
      have HL := Lib.hid hrs
      have HYL := Lib.hid hyl
      have HBL := Lib.hid hb
      clear hrl hrs hyl
      replace HR := Lib.hid (And.intro (HR.out.1.on hb) (HR.out.2.on hb))
      replace KW := Lib.hid (KW.out.trans (hb.mono KW.out.size))
      clear hb
      have hal2 : a.length ≤ 1000 := by omega
      have hbl2 : b.length ≤ 1000 := by omega
      go_wp2
      go_loopg [5, 7] LL.length (fun m want ix wr => ∃ p : Nat, m + p = LL.length ∧ ix = .int .i64 p ∧ want = .bool ((LL.take p).any (wB a)) ∧ Below w2.heap.size w2 wr)
      case atStart => exact ⟨0, by omega, rfl, by simp, Below.refl _ _⟩
      case round =>
        rename World => w3
        obtain ⟨p, hmp, rfl, rfl, hb3⟩ := hrel
        have HM := Lib.hid hmp
        have K3 := Lib.hid hb3
        have hp : p ≤ LL.length := by omega
        have hp0 : (0 : Int) ≤ (p : Int) := by omega
        have HON : Hid ((LL.take p).any (wB a) = true → prfx a b = true) := Lib.hid fun h => by rw [← HEND.out]; exact any_take_on h
        have HALL : Hid (p = LL.length → prfx a b = (LL.take p).any (wB a)) := Lib.hid fun h => by rw [h, List.take_length]; exact HEND.out.symm
        have HSU : Hid (∀ h : p < LL.length, (LL.take (p + 1)).any (wB a) = ((LL.take p).any (wB a) || wB a LL[p])) := Lib.hid any_take_succ
        generalize (LL.take p).any (wB a) = wp at *
        have hb := hb3
        clear hmp hb3
        by_cases hpl : p < LL.length
        · have hpi : (p : Int) < LL.length := by omega
          cases wp with
          | true =>
            have HP := Lib.hid (HON.out rfl)
            go_wp2_with fail
            refine (prefix_any _ _ a b _ (HR.out.1.on hb) (HR.out.2.on hb) hal2 hbl2).mono ?_
            rintro e w4 ⟨rfl, hb4⟩
            rw [HP.out]
            replace KW := Lib.hid (KW.out.trans ((hb.trans (hb4.mono hb.size)).mono KW.out.size))
            clear hb hb4
            go_wp2
            go_ret
            exact ⟨rfl, KW.out⟩
          | false =>
            obtain ⟨us, hrr, -⟩ := HL.out
            obtain ⟨rg, rfl, -, -⟩ := row_at hrr (by omega)
            obtain ⟨ua, uc, hucell, hurd⟩ := HL.out.cell hpl
            have c0 := hucell w3 hb
            have HU := Lib.hid (hurd.readsW)
            have HSU2 := Lib.hid (HSU.out hpl)
            have HPL := Lib.hid hpl
            have hyl := HYL.out _ (List.getElem_mem hpl)
            generalize LL[p] = y at *
            have huc : y.length ≤ uc := by obtain ⟨q1, q2, q3, q4, -⟩ := HU.out; injection q3 with _ _ q3; omega
            clear hrr hucell hurd hpl HSU HON HALL
            by_cases hle : a.length ≤ y.length
            · have hlei : (a.length : Int) ≤ (y.length : Int) := by omega
              have hlec : (a.length : Int) ≤ (uc : Int) := by omega
              have hlen : a.length ≤ uc := by omega
              have hwb : wB a y = decide (normE (y.take a.length) = normE a) := by unfold wB; rw [decide_eq_true hle, Bool.true_and]
              have HT := Lib.hid (ReadsW.on (ReadsK.front HU.out hle) hb)
              have HRA := Lib.hid (HR.out.1.on hb)
              have HWB := Lib.hid hwb
              have KA := Lib.hid (HBL.out.trans (hb.mono HBL.out.size))
              have htl : (y.take a.length).length ≤ 1000 := by rw [List.length_take]; omega
              clear hwb
              go_wp2_with fail
              refine (rnormal_any _ (y.take a.length) w3 (ReadsW.toE HT.out KA.out) htl).mono ?_
              rintro e w4 ⟨v4, rfl, h4⟩
              have HB4 := Lib.hid h4.1.2.2
              have H4 := Lib.hid (h4.reads (EvW.ev h4.1.2.2))
              obtain ⟨o4, c4, rfl⟩ := h4.slc
              clear h4 c0
              go_wp2_with fail
              refine (rnormal_any _ a w4 (HRA.out.on HB4.out) hal2).mono ?_
              rintro e w5 ⟨v5, rfl, h5⟩
              have HB5 := Lib.hid h5.1.2.2
              have H5 := Lib.hid (h5.reads (EvW.ev h5.1.2.2))
              obtain ⟨o5, c5, rfl⟩ := h5.slc
              clear h5
              go_wp2_with fail
              refine (rstr_any _ _ _ _ w5 (H4.out.on HB5.out) H5.out).mono ?_
              rintro e w6 ⟨rfl, hb6⟩
              rw [← HWB.out]
              have K6 := Lib.hid (hb.trans ((HB4.out.trans ((HB5.out.trans (hb6.mono HB5.out.size)).mono HB4.out.size)).mono hb.size))
              clear hb hb6 HB4 HB5 H4 H5
              generalize wB a y = d at *
              go_wp2
              go_roundg (LL.length - (p + 1))
              case measure => have := HM.out; have := HPL.out; omega
              case rel => exact ⟨p + 1, by have := HPL.out; omega, by go_num, by rw [HSU2.out, Bool.false_or], K6.out⟩
            · have hlei : ¬ (a.length : Int) ≤ (y.length : Int) := by omega
              have hled : decide (a.length ≤ y.length) = false := decide_eq_false hle
              have hwb : wB a y = false := by unfold wB; rw [hled, Bool.false_and]
              have HWB := Lib.hid hwb
              have K6 := Lib.hid hb
              clear hwb hb
              go_wp2
              go_roundg (LL.length - (p + 1))
              case measure => have := HM.out; have := HPL.out; omega
              case rel => exact ⟨p + 1, by have := HPL.out; omega, by go_num, by rw [HSU2.out, HWB.out]; rfl, K6.out⟩
        · have hpi : ¬ (p : Int) < LL.length := by omega
          have HP := Lib.hid (HALL.out (by omega))
          clear HON HALL HSU
          go_wp2_with fail
          refine (prefix_any _ _ a b _ (HR.out.1.on hb) (HR.out.2.on hb) hal2 hbl2).mono ?_
          rintro e w4 ⟨rfl, hb4⟩
          rw [HP.out]
          replace KW := Lib.hid (KW.out.trans ((hb.trans (hb4.mono hb.size)).mono KW.out.size))
          clear hb hb4
          go_wp2
          go_ret
          exact ⟨rfl, KW.out⟩

set_option maxRecDepth 100000 in
theorem lifted (os : Os) (started : os.Started) (H : Type) (enc : TypeId × Value → H) :
    ReturnsInHanded {} Try.checked os 9 .any (Rows.schedulePrefixSpec.pre6 enc Try.prog Try.f9 Rows.schedulePrefixRow.domain false) (Rows.schedulePrefixSpec.post enc Try.prog Try.f9 false true false false) := by
  refine returnsInHanded_of_change (C := Try.checked) own started (by kernel_rfl) Try.func9
    (ChangeSpec.witness6 (enc := enc) (C := Try.checked) false ⟨#[], #[.slice none 0 0, .slice none 0 0], []⟩ 8 (by kernel_rfl) (by kernel_rfl) (by kernel_rfl) (by kernel_rfl)) ?_
  intro W base args ds gs before hval0 hW hcnd _
  have hval : ∀ (j : Nat) t v, Try.f9.params[j]? = some t → args[j]? = some v → Value.okWide Try.prog W .any base t v := hval0
  have hW' := hW
  obtain ⟨p, q, hA0, hV, rfl, hfz, hnd⟩ := hW
  have hA : DataW.TrodAll enc Try.prog W 0 (fun _ => true) true Try.f9.params.toList args.toList ds p := hA0
  rw [Try.params9] at hA hval
  obtain ⟨v0, vs0, d0, ds0, p0, q0, hargs, rfl, rfl, t0, r0⟩ := trodAll_cons hA
  obtain ⟨v1, vs1, d1, ds1, p1, q1, rfl, rfl, rfl, t1, r1⟩ := trodAll_cons r0
  obtain ⟨rfl, rfl, rfl⟩ := trodAll_nil r1
  obtain rfl : args = #[v0, v1] := by cases args; simp_all
  obtain ⟨rfl, rfl⟩ := trodVars_none hV
  obtain ⟨x0, h0⟩ := open_tr (hval 0 22 v0 rfl rfl) t0
  obtain ⟨x1, h1⟩ := open_tr (hval 1 22 v1 rfl rfl) t1
  refine (walk v0 v1 x0 x1 W h0 h1).mono fun e W' ⟨he, hb⟩ => ?_
  subst he
  exact ⟨_, rfl, law_post laidOut rfl (fun _ _ => rfl) (by kernel_rfl) Try.underlying4 (by rw [Try.params9]; exact fun t ht => by simp at ht; rcases ht with  rfl ; all_goals exact ⟨by kernel_rfl, of_decide_eq_true (by kernel_rfl)⟩) hW' hb⟩

theorem over : Rows.schedulePrefixRow.holds Try.pinned (OpenSpec.ofChange Rows.schedulePrefixSpec) :=
  OpenClaim.holds_of_wide 9 Try.f9 rfl rfl rfl rfl rfl rfl rfl ⟨rfl, rfl, rfl, rfl, rfl⟩ rfl rfl rfl rfl rfl (by kernel_rfl) Try.func9 (by kernel_rfl)
    (of_decide_eq_true (by kernel_rfl)) (by unfold Func.isWrapper; first | (rw [if_pos (by decide +kernel)]; kernel_rfl) | (rw [if_neg (by decide +kernel)]; exact ⟨rfl, rfl⟩))
    (fun os started H enc _ => lifted os started H enc)

theorem proved : Rows.SchedulePrefixSaid := over
end Go.Proofs.Ytfdicndmebhmdaa.schedulePrefix
