/-
  ScheduleAll: for all arguments the law returns true, and what came in reads behind the call as before. No condition.
-/
import Derived.Test.YtfdicndmebhmdaaNq
import Derived.Test.YtfdicndmebhmdaaNa
import Derived.Test.YtfdicndmebhmdaaHq
import Derived.Deep.DeepCutAuto
namespace Go.Proofs.Ytfdicndmebhmdaa.scheduleAll
open Go.ChangeShapes Go.WideShapes Go.ChangeAt Go.RowKit

theorem RowsF.slc {F : Nat → Prop} {B : Nat} {w : World} {v : Value} {LL : List (List Ev)} (h : RowsF F B w v LL) : ∃ a c, v = .slice a LL.length c := by
  obtain ⟨us, h1, -⟩ := h
  exact row_slc h1
theorem RowsF.cell {F : Nat → Prop} {B ga n c : Nat} {w : World} {LL : List (List Ev)} (h : RowsF F B w (.slice (some ⟨ga, 0, none⟩) n c) LL) {k : Nat} (hk : k < LL.length) : ∃ a c', (∀ wq, Below w.heap.size w wq → wq.cell? ⟨ga, k, none⟩ = some (.slice a LL[k].length c')) ∧ ReadsE w (.slice a LL[k].length c') LL[k] := by
  obtain ⟨us, h1, h2⟩ := h
  obtain ⟨u, a, b⟩ := h2 k hk
  obtain ⟨a', c', rfl⟩ : ∃ a' c', u = .slice a' LL[k].length c' := by obtain ⟨cells, q, -⟩ := b; exact row_slc q
  obtain ⟨a2, c2, e⟩ := row_slc h1
  injection e with e1 e2 e3
  subst e2 e3
  obtain ⟨g, e4, -, h5⟩ := row_at h1 (by omega)
  injection e4 with e4
  injection e4 with e4
  subst e4
  exact ⟨a', c', fun wq hq => h5 wq hq k _ a, b.reads⟩
theorem all_same (t : List Ev) (lim : Int) : rallE t.length t lim = allE t lim := by unfold rallE allE; rw [linsE_eq]
theorem cnt_same (t : List Ev) (lim : Int) : cntE t lim = ((allE t lim).length : Nat) := by
  unfold cntE allE
  split
  · rfl
  · rw [List.length_take]; unfold linsE; rw [List.length_map]
set_option maxRecDepth 100000 in
set_option maxHeartbeats 16000000 in
theorem walk (v : Value) (t : List Ev) (lim : Int) (W : World) (hr : ReadsE W v t) : Calls Try.prog 6 #[v, .int .i64 lim] W (BoolMade W true) := by
  have HR := Lib.hid hr
  obtain ⟨ao, cap, rfl, hl, hm, -, -⟩ := hr
  unfold maxLen at hm
  go_enter Try.func6, Try.ntmps6
  have KW := Lib.hid (Below.refl W.heap.size W)
  go_wp2_with fail
  refine (awake_any _).mono ?_
  rintro e w1 ⟨rfl, hb⟩
  replace HR := Lib.hid (HR.out.on hb)
  replace KW := Lib.hid (KW.out.trans (hb.mono KW.out.size))
  clear hb
  go_wp2_with fail
  refine (rsmall_any _ t 6 w1 HR.out).mono ?_
  rintro e ws ⟨rfl, rfl⟩
  cases hs : smB t 6 with
  | false =>
    go_wp2
    go_ret
    exact ⟨rfl, KW.out⟩
  | true =>
    have HSA := Lib.hid hs
    clear hs
    have HST := Lib.hid (SmallT.of HSA.out (by decide))
    have hn : t.length ≤ 6 := by have := (smB_of HSA.out).1; omega
    clear HSA
    by_cases hlim : 800 < lim
    · go_wp2
      go_ret
      exact ⟨rfl, KW.out⟩
    · have hlim2 : lim ≤ 800 := by omega
      go_wp2_with fail
      refine (rall_any t.length t _ lim ws ws rfl (by omega) (by omega) HR.out (Below.refl _ _)).mono ?_
      rintro e w2 ⟨v2, rfl, hrs, hb⟩
      rw [all_same] at hrs
      have HA := Lib.hid hrs
      obtain ⟨a2, c2, rfl⟩ := hrs.slc
      have KA := Lib.hid hb
      clear hrs
      replace HR := Lib.hid (HR.out.on hb)
      replace KW := Lib.hid (KW.out.trans (hb.mono KW.out.size))
      clear hb
      go_wp2_with fail
      refine (all_any _ t lim _ HR.out HST.out (by omega)).mono ?_
      rintro e w3 ⟨v3, F, B, rfl, hg, hb⟩
      have HG := Lib.hid hg
      obtain ⟨a3, c3, rfl⟩ := RowsF.slc hg
      replace HA := Lib.hid (HA.out.on hb)
      replace KA := Lib.hid (KA.out.trans (hb.mono KA.out.size))
      clear hg
      replace HR := Lib.hid (HR.out.on hb)
      replace KW := Lib.hid (KW.out.trans (hb.mono KW.out.size))
      clear hb
      have hne : (((allE t lim).length : Int) != ((allE t lim).length : Int)) = false := by simp
      go_wp2_with fail
      refine (count_any _ t lim _ HR.out (by omega) (by omega)).mono ?_
      rintro e w4 ⟨rfl, hb⟩
      rw [cnt_same]
      replace HA := Lib.hid (HA.out.on hb)
      replace KA := Lib.hid (KA.out.trans (hb.mono KA.out.size))
      have HB4 := Lib.hid hb
      replace HR := Lib.hid (HR.out.on hb)
      replace KW := Lib.hid (KW.out.trans (hb.mono KW.out.size))
      clear hb
      have hll : (allE t lim).length ≤ 800 := by
        have h1 := cnt_same t lim
        unfold cntE at h1
        split at h1 <;> omega
      generalize allE t lim = LL at *
      go_wp2
      go_loopg [7] LL.length (fun m ix wr => ∃ p : Nat, m + p = LL.length ∧ ix = .int .i64 p ∧ Below w4.heap.size w4 wr)
      case atStart => exact ⟨0, by omega, rfl, Below.refl _ _⟩
      case round =>
        rename World => w5
        obtain ⟨p, hmp, rfl, hb5⟩ := hrel
        have HM := Lib.hid hmp
        have K5 := Lib.hid hb5
        have hp : p ≤ LL.length := by omega
        have hp0 : (0 : Int) ≤ (p : Int) := by omega
        clear hmp hb5
        by_cases hpl : p < LL.length
        · have hpi : (p : Int) < LL.length := by omega
          obtain ⟨us, hrr, -⟩ := id HA.out
          obtain ⟨ga, rfl, -, -⟩ := row_at hrr (by omega)
          obtain ⟨us3, hrr3, -⟩ := id HG.out
          obtain ⟨gg, rfl, -, -⟩ := row_at hrr3 (by omega)
          obtain ⟨ua, uc, hucell, hurd⟩ := HA.out.cell hpl
          obtain ⟨xa, xc, hxcell, hxrd⟩ := RowsF.cell HG.out hpl
          have HU := Lib.hid (And.intro (fun wq (hq : Below w5.heap.size w5 wq) => hucell wq (K5.out.trans (hq.mono K5.out.size))) ((hurd.readsW.toE KA.out).on K5.out))
          have K35 := Lib.hid (HB4.out.trans (K5.out.mono HB4.out.size))
          have HX := Lib.hid (And.intro (fun wq (hq : Below w5.heap.size w5 wq) => hxcell wq (K35.out.trans (hq.mono K35.out.size))) (hxrd.on K35.out))
          have HPL := Lib.hid hpl
          generalize LL[p] = y at *
          clear hrr hrr3 hucell hurd hxcell hxrd hpl
          go_wp2_with fail
          refine region_left [.is (.slice (some ⟨gg, 0, none⟩) LL.length c3), .is (.int .i64 (p : Int)), .is (.pointer (some ⟨gg, p, none⟩)), .is (.slice xa y.length xc), .is (.slice (some ⟨ga, 0, none⟩) LL.length c2), .is (.int .i64 (p : Int)), .is (.pointer (some ⟨ga, p, none⟩)), .is (.slice ua y.length uc), .is (.bool true), .is (.bool false)] (by kernel_rfl) rfl (by kernel_rfl) (by kernel_rfl) (.cons ?a0 (.cons ?a1 (.cons ?a2 (.cons ?a3 (.cons ?a4 (.cons ?a5 (.cons ?a6 (.cons ?a7 (.cons ?a8 (.cons ?a9 .nil)))))))))) ?afin
          case a0 =>
            intro wq hbw st  K hK
            simp only [Act.put, List.setIfInBounds_toArray, List.set_cons_zero, List.set_cons_succ] at hK ⊢
            unfold opStep
            rw [if_pos (by rfl)]
            go_simp
            exact hK.out _ _ (Below.refl _ _) rfl _ rfl
          case a1 =>
            intro wq hbw st  K hK
            simp only [Act.put, List.setIfInBounds_toArray, List.set_cons_zero, List.set_cons_succ] at hK ⊢
            unfold opStep
            rw [if_pos (by rfl)]
            go_simp
            exact hK.out _ _ (Below.refl _ _) rfl _ rfl
          case a2 =>
            intro wq hbw st  K hK
            simp only [Act.put, List.setIfInBounds_toArray, List.set_cons_zero, List.set_cons_succ] at hK ⊢
            unfold opStep
            rw [if_pos (by rfl)]
            go_simp
            exact hK.out _ _ (Below.refl _ _) rfl _ rfl
          case a3 =>
            intro wq hbw st  K hK
            simp only [Act.put, List.setIfInBounds_toArray, List.set_cons_zero, List.set_cons_succ] at hK ⊢
            unfold opStep
            rw [if_pos (by rfl)]
            have d0 := HX.out.1 wq hbw
            go_simp
            exact hK.out _ _ (Below.refl _ _) rfl _ rfl
          case a4 =>
            intro wq hbw st  K hK
            simp only [Act.put, List.setIfInBounds_toArray, List.set_cons_zero, List.set_cons_succ] at hK ⊢
            unfold opStep
            rw [if_pos (by rfl)]
            go_simp
            exact hK.out _ _ (Below.refl _ _) rfl _ rfl
          case a5 =>
            intro wq hbw st  K hK
            simp only [Act.put, List.setIfInBounds_toArray, List.set_cons_zero, List.set_cons_succ] at hK ⊢
            unfold opStep
            rw [if_pos (by rfl)]
            go_simp
            exact hK.out _ _ (Below.refl _ _) rfl _ rfl
          case a6 =>
            intro wq hbw st  K hK
            simp only [Act.put, List.setIfInBounds_toArray, List.set_cons_zero, List.set_cons_succ] at hK ⊢
            unfold opStep
            rw [if_pos (by rfl)]
            go_simp
            exact hK.out _ _ (Below.refl _ _) rfl _ rfl
          case a7 =>
            intro wq hbw st  K hK
            simp only [Act.put, List.setIfInBounds_toArray, List.set_cons_zero, List.set_cons_succ] at hK ⊢
            unfold opStep
            rw [if_pos (by rfl)]
            have d0 := HU.out.1 wq hbw
            go_simp
            exact hK.out _ _ (Below.refl _ _) rfl _ rfl
          case a8 =>
            intro wq hbw st  K hK
            simp only [Act.put, List.setIfInBounds_toArray, List.set_cons_zero, List.set_cons_succ] at hK ⊢
            unfold opStep
            rw [if_pos (by rfl)]
            go_simp
            have hpc := rstr_any _ _ y y wq (HX.out.2.on hbw) (HU.out.2.on hbw)
            rw [decide_eq_true rfl] at hpc
            refine hpc.mono ?_
            rintro e wz ⟨rfl, hbz⟩
            go_simp
            exact hK.out _ _ hbz rfl _ rfl
          case a9 =>
            intro wq hbw st  K hK
            simp only [Act.put, List.setIfInBounds_toArray, List.set_cons_zero, List.set_cons_succ] at hK ⊢
            unfold opStep
            rw [if_pos (by rfl)]
            go_simp
            exact hK.out _ _ (Below.refl _ _) rfl _ rfl
          case afin =>
            intro wq hbw
            try simp only [FinAll]
            simp only [Act.put, List.setIfInBounds_toArray, List.set_cons_zero, List.set_cons_succ]
            have K6 := Lib.hid (K5.out.trans (hbw.mono K5.out.size))
            clear hbw K5 HX HU K35
            go_wp2
            go_roundg (LL.length - (p + 1))
            case measure => have := HM.out; have := HPL.out; omega
            case rel => exact ⟨p + 1, by have := HPL.out; omega, by go_num, K6.out⟩
        · have hpi : ¬ (p : Int) < LL.length := by omega
          have KF := Lib.hid (KW.out.trans (K5.out.mono KW.out.size))
          go_wp2
          go_ret
          exact ⟨rfl, KF.out⟩

set_option maxRecDepth 100000 in
theorem lifted (os : Os) (started : os.Started) (H : Type) (enc : TypeId × Value → H) :
    ReturnsInHanded {} Try.checked os 6 .any (Rows.scheduleAllSpec.pre6 enc Try.prog Try.f6 Rows.scheduleAllRow.domain false) (Rows.scheduleAllSpec.post enc Try.prog Try.f6 false true false false) := by
  refine returnsInHanded_of_change (C := Try.checked) own started (by kernel_rfl) Try.func6
    (ChangeSpec.witness6 (enc := enc) (C := Try.checked) false ⟨#[], #[.slice none 0 0, .int .i64 0], []⟩ 8 (by kernel_rfl) (by kernel_rfl) (by kernel_rfl) (by kernel_rfl)) ?_
  intro W base args ds gs before hval0 hW hcnd _
  have hval : ∀ (j : Nat) t v, Try.f6.params[j]? = some t → args[j]? = some v → Value.okWide Try.prog W .any base t v := hval0
  have hW' := hW
  obtain ⟨p, q, hA0, hV, rfl, hfz, hnd⟩ := hW
  have hA : DataW.TrodAll enc Try.prog W 0 (fun _ => true) true Try.f6.params.toList args.toList ds p := hA0
  rw [Try.params6] at hA hval
  obtain ⟨v0, vs0, d0, ds0, p0, q0, hargs, rfl, rfl, t0, r0⟩ := trodAll_cons hA
  obtain ⟨v1, vs1, d1, ds1, p1, q1, rfl, rfl, rfl, t1, r1⟩ := trodAll_cons r0
  obtain ⟨rfl, rfl, rfl⟩ := trodAll_nil r1
  obtain rfl : args = #[v0, v1] := by cases args; simp_all
  obtain ⟨rfl, rfl⟩ := trodVars_none hV
  obtain ⟨x0, h0⟩ := open_tr (hval 0 22 v0 rfl rfl) t0
  obtain ⟨x1, rfl, _, _, w1⟩ := open_int Try.underlying3 (hval 1 3 v1 rfl rfl) t1
  refine (walk v0 x0 x1 W h0).mono fun e W' ⟨he, hb⟩ => ?_
  subst he
  exact ⟨_, rfl, law_post laidOut rfl (fun _ _ => rfl) (by kernel_rfl) Try.underlying4 (by rw [Try.params6]; exact fun t ht => by simp at ht; rcases ht with  rfl | rfl ; all_goals exact ⟨by kernel_rfl, of_decide_eq_true (by kernel_rfl)⟩) hW' hb⟩

theorem over : Rows.scheduleAllRow.holds Try.pinned (OpenSpec.ofChange Rows.scheduleAllSpec) :=
  OpenClaim.holds_of_wide 6 Try.f6 rfl rfl rfl rfl rfl rfl rfl ⟨rfl, rfl, rfl, rfl, rfl⟩ rfl rfl rfl rfl rfl (by kernel_rfl) Try.func6 (by kernel_rfl)
    (of_decide_eq_true (by kernel_rfl)) (by unfold Func.isWrapper; first | (rw [if_pos (by decide +kernel)]; kernel_rfl) | (rw [if_neg (by decide +kernel)]; exact ⟨rfl, rfl⟩))
    (fun os started H enc _ => lifted os started H enc)

theorem proved : Rows.ScheduleAllSaid := over
end Go.Proofs.Ytfdicndmebhmdaa.scheduleAll
