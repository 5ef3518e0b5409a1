/-
  Chapter 29: extend, with Count's visitor.
-/
import Derived.Test.YtfdicndmebhmdaaFb
namespace Go.Proofs.Ytfdicndmebhmdaa
open Go.RowKit

set_option maxRecDepth 100000 in
set_option maxHeartbeats 16000000 in
theorem extCount_any (C : Ctx) (hC : C.Ok) (lim : Nat) (V : List (List Nat) → (Nat → Prop) → World → Prop) (hV : Visitor C lim V) (pn pl : Nat) (hvis : C.vis = (.func (.func 43) #[] #[.pointer (some ⟨pn, 0, none⟩), .pointer (some ⟨pl, 0, none⟩)]))
    (hv : ∀ seen F w ov o, V seen F w → seen.length < lim → Reads nv w ov o → (∀ x, x ∈ o → x < C.t.length) → o.length ≤ C.t.length → Below C.W0.heap.size C.W0 w → Calls Try.prog 43 #[ov, .pointer (some ⟨pn, 0, none⟩), .pointer (some ⟨pl, 0, none⟩)] w fun e w' => e = .returned (.bool (decide (seen.length + 1 < lim))) ∧ ∃ F', V (seen ++ [o]) F' w' ∧ Kept F w w' ∧ ∀ b, F' b → (F b ∨ w.heap.size ≤ b) ∧ b < w'.heap.size) :
    ∀ (d : Nat) (o : List Nat) (ov : Value) (F : Nat → Prop) (seen : List (List Nat)) (w : World), C.t.length - o.length < d → o.length ≤ C.t.length → (∀ x, x ∈ o → x < C.t.length) → (remL C.t (usO o)).length = C.t.length - o.length → ES C w (usO o) o ov F → V seen F w → seen.length < lim →
      Calls Try.prog 58 #[.pointer (some ⟨C.po, 0, none⟩), .pointer (some ⟨C.pt, 0, none⟩), .pointer (some ⟨C.pv, 0, none⟩), .pointer (some ⟨C.ps, 0, none⟩), .pointer (some ⟨C.pe, 0, none⟩)] w (ExtPost C lim V o ov F seen w) := by
  have HC := Lib.hid hC
  have HV := Lib.hid hV
  have HVI := Lib.hid hv
  have HVIS := Lib.hid hvis
  obtain ⟨ta, tk, htv, htl, htm, -, -⟩ := hC.rd
  have HTV := Lib.hid htv
  have hsm := hC.sm
  unfold maxLen at htm
  clear hV hv hvis htv
  intro d
  induction d with
  | zero => intro o ov F seen w hd; omega
  | succ d ih =>
    intro o ov F seen w hd hon hom hrem hes hv0 hlt
    have IH := Lib.hid ih
    have HES := Lib.hid hes
    have HV0 := Lib.hid (And.intro hv0 hlt)
    have HOM := Lib.hid hom
    have HREM := Lib.hid hrem
    have HD := Lib.hid hd
    obtain ⟨oa, oc, rfl⟩ := row_slc hes.row
    have qo : w.cell? ⟨C.po, 0, none⟩ = some (.slice oa o.length oc) := hes.bo.cell 0
    have qt : w.cell? ⟨C.pt, 0, none⟩ = some (.slice ta C.t.length tk) := by have h1 := hes.eb.bt.cell 0; rw [HTV.out] at h1; exact h1
    clear ih hes hv0 hom hrem hd hlt
    by_cases hfull : o.length = C.t.length
    · have e1 : ((o.length : Int) == (C.t.length : Int)) = true := beq_t (by omega)
      have qv : w.cell? ⟨C.pv, 0, none⟩ = some (.func (.func 43) #[] #[.pointer (some ⟨pn, 0, none⟩), .pointer (some ⟨pl, 0, none⟩)]) := by have h1 := HES.out.eb.bv.cell 0; rw [HVIS.out] at h1; exact h1
      have HF := Lib.hid hfull
      have hcall := HVI.out seen F w _ o HV0.out.1 HV0.out.2 (Reads.of_owns HES.out.row) HOM.out hon HES.out.eb.bel
      obtain ⟨bb, hbb⟩ : ∃ bb, bb = decide (seen.length + 1 < lim) := ⟨_, rfl⟩
      rw [← hbb] at hcall
      have HBB := Lib.hid hbb
      have HCALL := Lib.hid hcall
      clear hcall hbb hfull
      go_enter Try.func58, Try.ntmps58
      go_wp2_with fail
      refine HCALL.out.mono ?_
      rintro e w1 ⟨rfl, F', hv1, hk1, hf1⟩
      have HX := Lib.hid (And.intro hv1 (And.intro hk1 hf1))
      clear hv1 hk1 hf1 HCALL
      go_wp2
      go_ret
      have hz : C.t.length - o.length = 0 := by have := HF.out; omega
      unfold ExtPost
      rw [hz]
      refine ⟨ret_bool HBB.out, _, F', HES.out.visited HC.out HX.out.2.1 HX.out.2.2, ?_, HX.out.2.1.mono fun b _ hb => .inr (.inr (.inr (.inr hb))), fun b hb => (HX.out.2.2 b hb).1, fun b hb => .inl hb⟩
      have h2 : ((linsGo C.t 0 (usO o)).map (o ++ ·)).take (lim - seen.length) = [o] := by
        rw [List.take_of_length_le (by simp [linsGo]; have := HV0.out.2; omega)]
        simp [linsGo]
      rw [h2]; exact HX.out.1
    · have e1 : ((o.length : Int) == (C.t.length : Int)) = false := beq_f (by omega)
      obtain ⟨n', hn'⟩ : ∃ n', C.t.length - o.length = n' + 1 := ⟨C.t.length - o.length - 1, by omega⟩
      have HN := Lib.hid hn'
      have hne := remU (t := C.t) (o := o) (n := n') (by rw [HREM.out, hn'])
      have HNE := Lib.hid hne
      have qs : w.cell? ⟨C.ps, 0, none⟩ = some (.pointer (some ⟨C.gs, 0, none⟩)) := HES.out.eb.bs.cell 0
      have HRDY := Lib.hid (ready_any C.M0 C.N0 C.gs C.gw C.gn C.gu C.tv C.t (usO o) C.W0 w HES.out.eb.sr HC.out.rd HES.out.eb.bel hsm)
      clear hn' hne hfull
      go_enter Try.func58, Try.ntmps58
      go_wp2_with fail
      refine HRDY.out.mono ?_
      rintro e w1 ⟨lv, rfl, hrd, hbl, hb1⟩
      have HX0 : Hid (ExM C V o (.slice oa o.length oc) F w lv (usO o) o (.slice oa o.length oc) F w1 seen) := Lib.hid
        ⟨HES.out.on HC.out hb1, HV.out.keep _ _ _ _ _ HV0.out.1 (Kept.of (S := fun _ => False) hb1) (fun _ q => q.elim), hrd, fun b hb => ⟨hbl b hb, fun q => by have := (HES.out.fr b q).2.2.2; have := hbl b hb; omega, fun q => by have := (HES.out.row.lt b q.symm).2; have := hbl b hb; omega, hrd.own_lt HNE.out hb⟩, HES.out.eb.sz, Kept.of hb1, fun b hb => .inl hb, fun b hb => .inl hb⟩
      obtain ⟨la, lk, rfl, hll, hlm, -, -⟩ := hrd
      unfold maxLen at hlm
      clear hbl hb1 HRDY qo qt qs
      go_wp2
      go_loopg [7, 8, 20] (rdyS C.t (usO o)).length (fun m _ _ idx wr => ∃ (q : Nat) (ovq : Value) (Fq : Nat → Prop), m + q = (rdyS C.t (usO o)).length ∧ idx = .int .i64 q ∧ ExM C V o (.slice oa o.length oc) F w (.slice la (rdyS C.t (usO o)).length lk) (usO o) o ovq Fq wr (seen ++ (linsQ C.t n' (usO o) q).map (o ++ ·)) ∧ seen.length + (linsQ C.t n' (usO o) q).length < lim)
      case atStart => exact ⟨0, _, F, by omega, rfl, by rw [linsQ_zero]; simpa using HX0.out, by rw [linsQ_zero]; exact HV0.out.2⟩
      case round =>
        clear HX0
        obtain ⟨q, ovq, Fq, hmq, rfl, hx, hql⟩ := hrel
        have HM := Lib.hid hmq
        have HX := Lib.hid hx
        have HQL := Lib.hid hql
        have hq : q ≤ (rdyS C.t (usO o)).length := by omega
        obtain ⟨oaq, ocq, rfl⟩ := row_slc hx.es.row
        clear hmq hx hql
        by_cases hlt : q < (rdyS C.t (usO o)).length
        · have hqi : (q : Int) < (rdyS C.t (usO o)).length := by omega
          have hq0 : (0 : Int) ≤ (q : Int) := by omega
          have HQ := Lib.hid (And.intro hlt trivial)
          have hmem : (rdyS C.t (usO o))[q] ∈ rdyS C.t (usO o) := List.getElem_mem hlt
          have hmi := mem_rdyS.1 hmem
          have hiu := (rdyB_iff.1 hmi.2).1
          have hio : (rdyS C.t (usO o))[q] ∉ o := usO_out hiu
          have hrem2 := remL_len_set (us := usO o) hmem (by rw [HREM.out, HN.out])
          rw [usO_snoc] at hrem2
          have HT := Lib.hid (@ext_true C.t n' lim q o seen hlt)
          have HFL := Lib.hid (@ext_false C.t n' lim q o seen hlt HQL.out)
          obtain ⟨lb, lo, rfl, hlb, hlc⟩ : ∃ b off, la = some ⟨b, off, none⟩ ∧ b < wr.heap.size ∧ wr.cell? ⟨b, off + q, none⟩ = some (nv (rdyS C.t (usO o))[q]) := by
            obtain ⟨ao, cap, hv, -, -, -, hx⟩ := HX.out.rd
            injection hv with e1 e2 e3
            obtain ⟨b, off, hb, hlt', hc⟩ := hx HNE.out
            exact ⟨b, off, e1.trans hb, hlt', hc q hlt⟩
          unfold nv at hlc
          generalize hi : (rdyS C.t (usO o))[q] = i at *
          clear hi hlt hmem
          have HII := Lib.hid (And.intro hmi.1 (And.intro hiu (And.intro hio hrem2)))
          have qs : wr.cell? ⟨C.ps, 0, none⟩ = some (.pointer (some ⟨C.gs, 0, none⟩)) := HX.out.es.eb.bs.cell 0
          have HPL := Lib.hid (place_any C.M0 C.N0 C.gs C.gw C.gn C.gu i true C.tv C.t (usO o) wr HX.out.es.eb.sr hmi.1 (by rw [hiu]; rfl) hsm)
          clear hmi hiu hio hrem2
          go_wp2_with fail
          refine HPL.out.mono ?_
          rintro e w2 ⟨rfl, hsr2, hk2⟩
          rw [usO_snoc] at hsr2
          have HX2 := Lib.hid (HX.out.place HC.out HV.out hsr2 hk2)
          have qo2 : w2.cell? ⟨C.po, 0, none⟩ = some (.slice oaq o.length ocq) := HX2.out.es.bo.cell 0
          clear hsr2 hk2 HPL qs hlc
          go_wp2_with (at_builtin; refine append_nvb rfl _ _ rfl C.N1 (.slice oaq o.length ocq) o w2.heap.size i rfl (HX2.out.es.row.alloc _) rfl (Blk.new _ _ _) (by omega) (by have := HX2.out.es.eb.sz; simp; omega) ?_)
          intro v' w3 hr3 hg3 hv3
          have hr4 : w3.ownsRow C.N1 3 1 v' (o ++ [i]).length ((o ++ [i]).map nv) := by rw [List.length_append, List.map_append]; exact hr3
          have hpush := (HX2.out.below HC.out HV.out ((Below.refl _ _).alloc (Nat.le_refl _) (.cells #[.int .i64 (i : Int)] 3))).push HC.out HV.out hr4 hg3 (by simpa using hv3)
          have HP := Lib.hid hpush.1
          have c3 := hpush.2.cell 0
          have f3 := hpush.2.frozen 0
          have l3 := hpush.2.lt
          obtain ⟨va, vc, rfl⟩ := row_slc hr3
          clear hr3 hr4 hg3 hv3 hpush HX2 qo2
          go_upto_region 8 with fail
          generalize hw4 : World.setCell w3 _ _ = w4 at *
          clear hw4 c3 f3 l3
          have qe : w4.cell? ⟨C.pe, 0, none⟩ = some (extV C) := HP.out.es.eb.be.cell 0
          unfold extV at qe
          have hcall := IH.out (o ++ [i]) _ Fq _ w4 (by rw [List.length_append]; have := HD.out; have := HN.out; simp; omega) (by rw [List.length_append]; have := HN.out; simp; omega) (fun x hx => by rcases List.mem_append.1 hx with h | h; exact HOM.out x h; rw [List.mem_singleton.1 h]; exact HII.out.1) (by rw [HII.out.2.2.2, List.length_append]; have := HN.out; simp; omega) HP.out.es HP.out.v (by rw [List.length_append, List.length_map]; exact HQL.out)
          unfold ExtPost at hcall
          have hnn : C.t.length - (o ++ [i]).length = n' := by rw [List.length_append]; have := HN.out; simp; omega
          rw [hnn] at hcall
          obtain ⟨bb, hbb⟩ : ∃ bb, bb = decide ((seen ++ (linsQ C.t n' (usO o) q).map (o ++ ·)).length + (linsGo C.t n' (usO (o ++ [i]))).length < lim) := ⟨_, rfl⟩
          rw [← hbb] at hcall
          have HBB := Lib.hid hbb
          have HCALL := Lib.hid hcall
          clear hcall hbb hnn
          go_wp2_with fail
          refine HCALL.out.mono ?_
          rintro e w5 ⟨rfl, ov5, F5, es5, v5, k5, f5, o5⟩
          obtain ⟨a5, c5, rfl⟩ := row_slc es5.row
          have hx5 := HP.out.inner HC.out es5 v5 k5 f5 o5
          rw [show (o ++ [i]).length = o.length + 1 by simp] at hx5
          have HX5 := Lib.hid hx5
          have hc5 := row_cap es5.row
          rw [show (o ++ [i]).length = o.length + 1 by simp] at hc5
          unfold maxLen at hc5
          have hc51 := hc5.1
          have hc52 := hc5.2
          have q5 : w5.cell? ⟨C.po, 0, none⟩ = some (.slice a5 (o.length + 1) c5) := hx5.es.bo.cell 0
          have f5' := hx5.es.bo.frozen 0
          have l5 := hx5.es.bo.lt
          have hi5 : (o.length : Int) + 1 ≤ c5 := by omega
          clear es5 v5 k5 f5 o5 hx5 HCALL HP qe hc5
          go_upto_region 10 with fail
          generalize hw6 : World.setCell w5 _ _ = w6 at *
          have HX6 : Hid (ExM C V o (.slice oa o.length oc) F w (.slice (some ⟨lb, lo, none⟩) (rdyS C.t (usO o)).length lk) (usO (o ++ [i])) o (.slice a5 o.length c5) F5 w6 ((seen ++ (linsQ C.t n' (usO o) q).map (o ++ ·)) ++ ((linsGo C.t n' (usO (o ++ [i]))).map ((o ++ [i]) ++ ·)).take (lim - (seen ++ (linsQ C.t n' (usO o) q).map (o ++ ·)).length))) := Lib.hid (by rw [← hw6]; exact HX5.out.pop HC.out HV.out)
          clear hw6 q5 f5' l5 HX5
          have qs6 : w6.cell? ⟨C.ps, 0, none⟩ = some (.pointer (some ⟨C.gs, 0, none⟩)) := HX6.out.es.eb.bs.cell 0
          have HPL2 := Lib.hid (place_any C.M0 C.N0 C.gs C.gw C.gn C.gu i false C.tv C.t (usO (o ++ [i])) w6 HX6.out.es.eb.sr HII.out.1 (usO_in o i) hsm)
          go_wp2_with fail
          refine HPL2.out.mono ?_
          rintro e w7 ⟨rfl, hsr7, hk7⟩
          rw [usO_back HII.out.2.2.1] at hsr7
          have HX7 := Lib.hid (HX6.out.place HC.out HV.out hsr7 hk7)
          clear hsr7 hk7 HPL2 qs6 HX6
          cases bb with
          | true =>
            have ht := HT.out (of_decide_eq_true HBB.out.symm)
            have hx7 := HX7.out
            rw [ht.1] at hx7
            have HX8 := Lib.hid (And.intro hx7 ht.2)
            clear ht hx7 HX7
            go_wp2
            go_roundg ((rdyS C.t (usO o)).length - (q + 1))
            case measure => have := HM.out; omega
            case rel => exact ⟨q + 1, _, F5, by have := HM.out; have := HQ.out.1; omega, by go_num, HX8.out.1, HX8.out.2⟩
          | false =>
            have ht := HFL.out (of_decide_eq_false HBB.out.symm)
            have hx7 := HX7.out
            rw [ht.1] at hx7
            have HX8 := Lib.hid (And.intro hx7 ht.2)
            clear ht hx7 HX7
            go_wp2
            go_ret
            unfold ExtPost
            rw [HN.out]
            exact ⟨ret_bool (decide_eq_false HX8.out.2).symm, _, F5, HX8.out.1.es, HX8.out.1.v, HX8.out.1.kp, HX8.out.1.fq, HX8.out.1.oq⟩
        · have e : q = (rdyS C.t (usO o)).length := by omega
          subst e
          have hall := linsQ_all C.t n' (usO o) (Nat.le_refl (rdyS C.t (usO o)).length)
          have hxo := HX.out
          have hqo := HQL.out
          rw [hall] at hxo hqo
          have HXO := Lib.hid (And.intro hxo hqo)
          clear hxo hqo hall
          go_wp2
          go_ret
          unfold ExtPost
          rw [HN.out]
          refine ⟨ret_bool (decide_eq_true HXO.out.2).symm, _, Fq, HXO.out.1.es, ?_, HXO.out.1.kp, HXO.out.1.fq, HXO.out.1.oq⟩
          rw [List.take_of_length_le (by rw [List.length_map]; have := HXO.out.2; omega)]
          exact HXO.out.1.v
end Go.Proofs.Ytfdicndmebhmdaa
