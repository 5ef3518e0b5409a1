/-
  NetCopies: a copy and its original do not affect each other. Condition: what came in is of bulk at most 1048576 (the given statement's own).
-/
import Derived.Test.YtmcdmcnbnnfhnaaYx
namespace Go.Proofs.Ytmcdmcnbnnfhnaa.netCopies
open Go.ChangeShapes Go.WideShapes Go.ChangeAt Go.RowKit Go.Proofs.Ytmcdmcnbnnfhnaa
set_option maxRecDepth 100000
/-- Two new networks. -/
theorem start {W w2 : World} {l : Int} {n b : Nat} (hW : Below W.heap.size W w2) (hn : NetAt (fun k => k = n ∨ k = b) n b (.map none) (newS l) w2) (h1 : W.heap.size ≤ n) (h2 : W.heap.size ≤ b) :
    Run W.heap.size (fun _ => False) W n w2.heap.size (newS l) (newQ l) (w2.alloc (.cells (refC (newQ l) (.slice none 0 0) (.slice none 0 0) (.slice none 0 0)) 120)) := by
  have hb : Below w2.heap.size w2 (w2.alloc (.cells (refC (newQ l) (.slice none 0 0) (.slice none 0 0) (.slice none 0 0)) 120)) := (Below.refl _ _).alloc (Nat.le_refl _) _
  have hnl := hn.box.lt
  have hbl := hn.blt
  have hsz := hb.size
  refine ⟨fun k => k = n ∨ k = b, fun k => k = w2.heap.size, b, _, _, _, _, ⟨hn.on hb, RefAt.new l hW.size, fun k hk => ?_, fun k hk => ?_, fun k hk e => ?_⟩, fun k hk => .inr ?_, (Kept.of hW).trans (Kept.of hb)⟩
  · rcases hk with rfl | rfl
    · exact ⟨h1, by omega⟩
    · exact ⟨h2, by omega⟩
  · rw [World.size_alloc]; omega
  · rcases hk with rfl | rfl <;> omega
  · have := hW.size
    rcases hk with (rfl | rfl) | rfl <;> omega
set_option maxHeartbeats 16000000 in
theorem walk (v1 v2 v3 : Value) (acts second third : List ActM) (W : World) (ha0 : ReadsD (fun _ => True) W v1 (actsD acts)) (hb0 : ReadsD (fun _ => True) W v2 (actsD second)) (hc0 : ReadsD (fun _ => True) W v3 (actsD third)) : Calls Try.prog 7 #[v1, v2, v3] W (BoolMade W true) := by
  have HA := Lib.hid (show ReadsD (fun k => k < W.heap.size) W v1 (actsD acts) from ha0.lt.mono fun k h _ => h.2)
  have HA2 := Lib.hid (show ReadsD (fun k => k < W.heap.size) W v2 (actsD second) from hb0.lt.mono fun k h _ => h.2)
  have HA3 := Lib.hid (show ReadsD (fun k => k < W.heap.size) W v3 (actsD third) from hc0.lt.mono fun k h _ => h.2)
  obtain ⟨ao, cap, rfl, hl, hm, -, hL⟩ := ReadsD.slcM (f := actD) ha0
  obtain ⟨ao2, cap2, rfl, hl2, hm2, -, hL2⟩ := ReadsD.slcM (f := actD) hb0
  obtain ⟨ao3, cap3, rfl, hl3, hm3, -, hL3⟩ := ReadsD.slcM (f := actD) hc0
  unfold maxLen at hm hm2 hm3
  clear ha0 hb0 hc0
  have HF : Hid (∀ e w', e = .returned (.bool true) ∧ Below W.heap.size W w' → BoolMade W true e w') := Lib.hid fun _ _ h => h
  generalize hQ : BoolMade W true = Q at *
  clear hQ
  have HAW := Lib.hid (awake_any W)
  have hok : okL 50 := by unfold okL; omega
  go_enter Try.func7, Try.ntmps7
  go_wp2_with fail
  refine HAW.out.mono ?_
  rintro e w1 ⟨rfl, hb1⟩
  have HB1 := Lib.hid hb1
  clear hb1 HAW
  go_wp2_with fail
  refine (new_yes 50 w1 hok).mono ?_
  rintro e w2 ⟨n, b, rfl, hn, hb, hnl, hbl⟩
  have HN := Lib.hid (start (HB1.out.trans (hb.mono HB1.out.size)) hn (Nat.le_trans HB1.out.size hnl) (Nat.le_trans HB1.out.size hbl))
  have HNY := Lib.hid fun W => rnew_yes 50 W hok
  clear hn hb hnl hbl HB1 hok
  go_wp2_with fail
  refine (HNY.out _).mono ?_
  rintro e w3 ⟨rfl, rfl⟩
  generalize hw3 : World.alloc w2 _ = w3 at HN ⊢
  clear hw3 HNY
  generalize w2.heap.size = u at HN ⊢
  go_wp2
  go_loopg [10] acts.length (fun mm i wr => ∃ k : Nat, mm + k = acts.length ∧ i = .int .i64 k ∧ k ≤ 60 ∧ ∃ s r, Run W.heap.size (fun _ => False) W n u s r wr ∧ InvS 50 s k ∧ MatchS s r)
  case atStart => exact ⟨0, by omega, rfl, by omega, _, _, HN.out, InvS.new 50, MatchS.new 50⟩
  case round =>
    rename World => w5
    obtain ⟨k, hmk, rfl, hk60', s, r, hrun, hinv, hmt⟩ := hrel
    have HM := Lib.hid hmk
    have HINV := Lib.hid hinv
    have HMT := Lib.hid hmt
    have HR := Lib.hid hrun
    have HLOW := Lib.hid (hrun.low (Nat.le_refl _) fun _ h => h.elim)
    have HK60 := Lib.hid (And.intro hk60' trivial)
    have hk0 : (0 : Int) ≤ (k : Int) := by omega
    have hk1 : k ≤ acts.length := by omega
    clear hmk hinv hmt hrun hk60' HN
    by_cases hlt : k < acts.length ∧ k < 60
    · have hki : (k : Int) < acts.length := by omega
      have hk60 : (k : Int) < 60 := by omega
      have HLT := Lib.hid hlt
      obtain ⟨b1, o1, c1, cs1, e1, -, -, hn1, -, g1, q1⟩ := ReadsD.item (f := actD) (HA.out.keep HLOW.out.size fun k hk _ => HLOW.out.block k hk) hlt.1
      injection e1 with e1 e2 e3
      subst e1
      clear e2 e3
      generalize acts[k] = x at *
      clear hlt
      have HRG := Lib.hid (show w5.rangeAt b1 (o1 + k * 19) cs1 from g1 w5 (Below.refl _ _))
      have HN19 := Lib.hid hn1
      have HST := Lib.hid (step_any HR.out HINV.out HMT.out (by have := HK60.out; omega) x cs1 q1)
      clear g1 q1 hn1
      go_wp2_with (refine wpList_load_mid rfl 54 (.tmp 41) rfl b1 (o1 + k * 19) rfl cs1 _ HRG.out Try.underlying54 rfl (by rw [HN19.out]; kernel_rfl) ?_)
      refine HST.out.mono ?_
      rintro e w6 ⟨rfl, s6, r6, h6, hv6, hm6⟩
      have H6 := Lib.hid h6
      have HV6 := Lib.hid hv6
      have HM6 := Lib.hid hm6
      clear h6 hv6 hm6 HST
      go_wp2_with fail
      go_roundg (acts.length - (k + 1))
      case measure => have := HM.out; have := HLT.out; omega
      case rel => exact ⟨k + 1, by have := HLT.out; omega, by go_num, by have := HLT.out; omega, _, _, H6.out, HV6.out, HM6.out⟩
    · have HBS := Lib.hid (BndS.of HINV.out (by have := HK60.out; omega))
      have HBR := Lib.hid (BndR.of HINV.out HMT.out (by have := HK60.out; omega))
      have HCP := Lib.hid (HR.out.copy HBS.out)
      by_cases h1 : k < acts.length
      case' pos => have hd1 : (k : Int) < acts.length := by omega
      case' pos => have hd2 : ¬ (k : Int) < 60 := by omega
      case' neg => have hd1 : ¬ (k : Int) < acts.length := by omega
      all_goals
        clear hlt h1
        obtain ⟨GG, hGG⟩ : ∃ GG, GG = gk := ⟨_, rfl⟩
        subst hGG
        go_wp2_with fail
        refine HCP.out.mono ?_
        rintro e w6 ⟨m, b', gv', rfl, hcn, hb6⟩
        have HCN := Lib.hid (And.intro hcn hb6)
        have HRC := Lib.hid ((HR.out.on hb6).rcopy HBR.out)
        clear hcn hb6 HCP
        go_wp2_with fail
        refine HRC.out.mono ?_
        rintro e w7 ⟨v, nv', mv', rgv', rfl, hrn, hb7⟩
        have HBO : Hid (Both W.heap.size n u m v 50 60 60 w7) := Lib.hid ((HR.out.both HINV.out HMT.out HCN.out.1 HCN.out.2 hrn hb7).le (by have := HK60.out; omega) (by have := HK60.out; omega))
        have HLOW7 : Hid (Below W.heap.size W w7) := Lib.hid (HLOW.out.trans ((HCN.out.2.trans (hb7.mono HCN.out.2.size)).mono HLOW.out.size))
        clear hrn hb7 HRC HCN
        go_wp2
        go_loopg [13] 60 (fun mm i wr => ∃ q : Nat, mm + q = 60 ∧ i = .int .i64 q ∧ Both W.heap.size n u m v 50 (60 + q) (60 + q) wr ∧ Below W.heap.size W wr)
        case atStart => exact ⟨0, by omega, rfl, HBO.out, HLOW7.out⟩
        case round =>
          rename World => w8
          obtain ⟨q, hmq, rfl, hbo, hlow⟩ := hrel
          have HM2 := Lib.hid hmq
          have HB8 := Lib.hid hbo
          have HL8 := Lib.hid hlow
          have hq0 : (0 : Int) ≤ (q : Int) := by omega
          have hq1 : q ≤ 60 := by omega
          have HQ60 := Lib.hid (And.intro hq1 trivial)
          clear hmq hbo hlow HBO HLOW7 HLOW HR HINV HMT HBS HBR
          by_cases hlq : q < 60
          · have hqi : (q : Int) < 60 := by omega
            have HLQ := Lib.hid (And.intro hlq trivial)
            clear hlq hd1
            go_upto_block 3 with fail
            change Code.wp Try.prog (subC [true, true, true, true, true, true, true, true, true, false, true, false, false, true, false] (Try.f7.body.getD .skip)) _ _ _
            refine roundC HA2.out HA3.out hL2 hL3 HB8.out HL8.out HLQ.out.1 (fun w9 _ _ _ _ _ _ _ _ _ _ _ _ _ _ _ _ _ _ _ _ _ _ _ _ _ _ _ _ _ _ h9 hl9 => ?_)
            have H9 := Lib.hid (And.intro h9 hl9)
            clear h9 hl9
            go_wp2_with fail
            go_roundg (60 - (q + 1))
            case measure => have := HM2.out; have := HLQ.out; omega
            case rel => exact ⟨q + 1, by have := HLQ.out; omega, by go_num, H9.out.1, H9.out.2⟩
          · have hqi : ¬ (q : Int) < 60 := by omega
            clear hlq hd1
            have HAL := Lib.hid (HB8.out.alike1 (by have := HQ60.out; omega))
            go_wp2_with fail
            refine HAL.out.mono ?_
            rintro e w9 ⟨rfl, hb9⟩
            have HL9 := Lib.hid (HL8.out.trans (hb9.mono HL8.out.size))
            have HAL2 := Lib.hid ((HB8.out.on hb9).alike2 (by have := HQ60.out; omega))
            clear hb9 HAL
            go_wp2_with fail
            refine HAL2.out.mono ?_
            rintro e w10 ⟨rfl, hb10⟩
            have HL10 := Lib.hid (HL9.out.trans (hb10.mono HL9.out.size))
            clear hb10 HAL2
            go_wp2_with fail
            exact HF.out _ _ ⟨rfl, HL10.out⟩
theorem contract (H : Type) (enc : TypeId × Value → H) (W : World) (base : Nat) (args : Array Value) (ds gs : List (DataW H)) (before : List MemPlace)
    (hval0 : ∀ (j : Nat) t v, Try.f7.params[j]? = some t → args[j]? = some v → Value.okWide Try.prog W .any base t v)
    (hW : DataW.Whole enc Try.prog Try.f7.params.toList Rows.netCopiesSpec.vars false W args.toList ds gs before) (hk : Rows.uptoSmall H (ds ++ gs) = true) :
    Calls Try.prog 7 args W fun e W' => ∃ v, e = .returned v ∧ Rows.netCopiesSpec.post enc Try.prog Try.f7 false true false false W args v W' := by
  have hval : ∀ (j : Nat) t v, Try.f7.params[j]? = some t → args[j]? = some v → Value.okWide Try.prog W .any base t v := hval0
  have hW' := hW
  obtain ⟨p, q, hA0, hV, rfl, hfz, hnd⟩ := hW
  have hA : DataW.TrodAll enc Try.prog W 0 (fun _ => true) true Try.f7.params.toList args.toList ds p := hA0
  rw [Try.params7] at hA hval
  have hfp := free_left hfz
  obtain ⟨v0, vs0, d0, ds0, p0, q0, hargs, rfl, rfl, t0, r0⟩ := trodAll_cons hA
  obtain ⟨v1, vs1, d1, ds1, p1, q1, rfl, rfl, rfl, t1, r1⟩ := trodAll_cons r0
  obtain ⟨v2, vs2, d2, ds2, p2, q2, rfl, rfl, rfl, t2, r2⟩ := trodAll_cons r1
  obtain ⟨rfl, rfl, rfl⟩ := trodAll_nil r2
  obtain rfl : args = #[v0, v1, v2] := by cases args; simp_all
  obtain ⟨rfl, rfl⟩ := trodVars_none hV
  have hbk : Rows.uptoBulkAll [d0, d1, d2] ≤ 1048576 := by simpa only [List.append_nil] using (of_decide_eq_true hk : Rows.uptoBulkAll _ ≤ 1048576)
  simp only [Rows.uptoBulkAll] at hbk
  clear hk
  obtain ⟨a0, l0, k0, rfl⟩ := okWide_slice Try.underlying49 (hval 0 49 v0 rfl rfl)
  obtain ⟨u0, t0⟩ := t0
  simp only [Value.cells] at t0
  obtain ⟨x0, h0⟩ := ls_act t0 (free_left hfp) (by show Rows.uptoBulk d0 ≤ 1048576; omega)
  obtain ⟨a1, l1, k1, rfl⟩ := okWide_slice Try.underlying49 (hval 1 49 v1 rfl rfl)
  obtain ⟨u1, t1⟩ := t1
  simp only [Value.cells] at t1
  obtain ⟨x1, h1⟩ := ls_act t1 (free_left (free_right (hfp))) (by show Rows.uptoBulk d1 ≤ 1048576; omega)
  obtain ⟨a2, l2, k2, rfl⟩ := okWide_slice Try.underlying49 (hval 2 49 v2 rfl rfl)
  obtain ⟨u2, t2⟩ := t2
  simp only [Value.cells] at t2
  obtain ⟨x2, h2⟩ := ls_act t2 (free_left (free_right (free_right (hfp)))) (by show Rows.uptoBulk d2 ≤ 1048576; omega)
  refine (walk _ _ _ x0 x1 x2 W h0 h1 h2).mono fun e W' ⟨he, hb⟩ => ?_
  subst he
  exact ⟨_, rfl, law_post laidOut rfl (fun _ _ => rfl) (by kernel_rfl) Try.underlying4 (by rw [Try.params7]; exact fun t ht => by simp at ht; rcases ht with rfl | rfl | rfl; all_goals exact ⟨by kernel_rfl, of_decide_eq_true (by kernel_rfl)⟩) hW' hb⟩

theorem lifted (os : Os) (started : os.Started) (H : Type) (enc : TypeId × Value → H) (F : Stop.Interp) :
    ReturnsInHanded {} Try.checked os 7 .any ((Rows.OpenSpec.upto Rows.netCopiesSpec).pre6 enc Try.prog Try.f7 Rows.netCopiesUptoRow.domain false) (((Rows.OpenSpec.upto Rows.netCopiesSpec).at F).post enc Try.prog Try.f7 false true false false) := by
  refine returnsInHanded_of_cond (C := Try.checked) (s := (Rows.OpenSpec.upto Rows.netCopiesSpec)) (k := Rows.uptoSmall) rfl own started (by kernel_rfl) Try.func7
    (OpenSpec.witness (enc := enc) (C := Try.checked) (s := (Rows.OpenSpec.upto Rows.netCopiesSpec)) (k := Rows.uptoSmall) rfl false ⟨#[], #[.slice none 0 0, .slice none 0 0, .slice none 0 0], []⟩ 8 (by kernel_rfl) (by kernel_rfl) (by kernel_rfl)
      (x := ([.nil, .nil, .nil], [], [])) (by kernel_rfl) rfl (by kernel_rfl)) ?_
  intro W base args ds gs before hval hW _ hk _
  exact contract H enc W base args ds gs before hval hW hk

theorem proved : Rows.NetCopiesUptoSaid :=
  OpenClaim.holds_of_cond 7 Try.f7 rfl rfl rfl rfl rfl rfl rfl ⟨rfl, rfl, rfl, rfl, rfl⟩ rfl rfl rfl rfl rfl (by kernel_rfl) Try.func7 (by kernel_rfl)
    (of_decide_eq_true (by kernel_rfl)) (by unfold Func.isWrapper; first | (rw [if_pos (by decide +kernel)]; kernel_rfl) | (rw [if_neg (by decide +kernel)]; exact ⟨rfl, rfl⟩))
    (fun os started H enc _ F => lifted os started H enc F)
end Go.Proofs.Ytmcdmcnbnnfhnaa.netCopies
