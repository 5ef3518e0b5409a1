/-
  NetExact: all sequences of calls are answered as specified. Condition: what came in is of bulk at most 1048576 (the given statement's own).
-/
import Derived.Test.YtmcdmcnbnnfhnaaYt
namespace Go.Proofs.Ytmcdmcnbnnfhnaa.netExact
open Go.ChangeShapes Go.WideShapes Go.ChangeAt Go.RowKit Go.Proofs.Ytmcdmcnbnnfhnaa
set_option maxRecDepth 100000
/-- Two new networks. -/
theorem start {W w2 : World} {l : Int} {n b : Nat} (hW : Below W.heap.size W w2) (hn : NetAt (fun k => k = n ∨ k = b) n b (.map none) (newS l) w2) (h1 : W.heap.size ≤ n) (h2 : W.heap.size ≤ b) :
    Run W.heap.size (fun _ => False) W n w2.heap.size (newS l) (newQ l) (w2.alloc (.cells (refC (newQ l) (.slice none 0 0) (.slice none 0 0) (.slice none 0 0)) 120)) := by
  have hb : Below w2.heap.size w2 (w2.alloc (.cells (refC (newQ l) (.slice none 0 0) (.slice none 0 0) (.slice none 0 0)) 120)) := (Below.refl _ _).alloc (Nat.le_refl _) _
  have hnl := hn.box.lt
  have hbl := hn.blt
  have hsz := hb.size
  refine ⟨fun k => k = n ∨ k = b, fun k => k = w2.heap.size, b, _, _, _, _, ⟨hn.on hb, RefAt.new l hW.size, fun k hk => ?_, fun k hk => ?_, fun k hk e => ?_⟩, fun k hk => .inr ?_, (Kept.of hW).trans (Kept.of hb)⟩
  · rcases hk with rfl | rfl
    · exact ⟨h1, by omega⟩
    · exact ⟨h2, by omega⟩
  · rw [World.size_alloc]; omega
  · rcases hk with rfl | rfl <;> omega
  · have := hW.size
    rcases hk with (rfl | rfl) | rfl <;> omega
set_option maxHeartbeats 16000000 in
theorem walk (l : Int) (av : Value) (acts : List ActM) (W : World) (ha0 : ReadsD (fun _ => True) W av (actsD acts)) : Calls Try.prog 5 #[.int .i64 l, av] W (BoolMade W true) := by
  have HA := Lib.hid (show ReadsD (fun k => k < W.heap.size) W av (actsD acts) from ha0.lt.mono fun k h _ => h.2)
  obtain ⟨ao, cap, rfl, hl, hm, -, hL⟩ := ReadsD.slcM (f := actD) ha0
  unfold maxLen at hm
  clear ha0
  have HF : Hid (∀ e w', e = .returned (.bool true) ∧ Below W.heap.size W w' → BoolMade W true e w') := Lib.hid fun _ _ h => h
  generalize hQ : BoolMade W true = Q at *
  clear hQ
  have HAW := Lib.hid (awake_any W)
  go_enter Try.func5, Try.ntmps5
  go_wp2_with fail
  refine HAW.out.mono ?_
  rintro e w1 ⟨rfl, hb1⟩
  have HB1 := Lib.hid hb1
  clear hb1 HAW
  go_wp2_with fail
  by_cases hok : okL l
  case neg =>
    refine (new_no l w1 hok).mono ?_
    rintro e w2 ⟨rfl, rfl⟩
    have HNO := Lib.hid fun W => rnew_no l W hok
    clear hok
    go_wp2_with fail
    refine (HNO.out _).mono ?_
    rintro e w2 ⟨rfl, rfl⟩
    go_wp2_with fail
    exact HF.out _ _ ⟨rfl, HB1.out⟩
  refine (new_yes l w1 hok).mono ?_
  rintro e w2 ⟨n, b, rfl, hn, hb, hnl, hbl⟩
  have HN := Lib.hid (start (HB1.out.trans (hb.mono HB1.out.size)) hn (Nat.le_trans HB1.out.size hnl) (Nat.le_trans HB1.out.size hbl))
  have HNY := Lib.hid fun W => rnew_yes l W hok
  clear hn hb hnl hbl HB1 hok
  go_wp2_with fail
  refine (HNY.out _).mono ?_
  rintro e w3 ⟨rfl, rfl⟩
  generalize hw3 : World.alloc w2 _ = w3 at HN ⊢
  clear hw3 HNY
  generalize w2.heap.size = u at HN ⊢
  have HAL := Lib.hid (alike_any HN.out (InvS.new l) (MatchS.new l) (by omega))
  go_wp2_with fail
  refine HAL.out.mono ?_
  rintro e w4 ⟨rfl, hb4⟩
  have HR0 := Lib.hid (HN.out.on hb4)
  clear hb4 HAL HN
  go_wp2
  go_loopg [8] acts.length (fun mm i wr => ∃ k : Nat, mm + k = acts.length ∧ i = .int .i64 k ∧ ∃ s r, Run W.heap.size (fun _ => False) W n u s r wr ∧ InvS l s k ∧ MatchS s r)
  case atStart => exact ⟨0, by omega, rfl, _, _, HR0.out, InvS.new l, MatchS.new l⟩
  case round =>
    rename World => w5
    obtain ⟨k, hmk, rfl, s, r, hrun, hinv, hmt⟩ := hrel
    have HM := Lib.hid hmk
    have HINV := Lib.hid hinv
    have HMT := Lib.hid hmt
    have HR := Lib.hid hrun
    have HLOW := Lib.hid (hrun.low (Nat.le_refl _) fun _ h => h.elim)
    have hk0 : (0 : Int) ≤ (k : Int) := by omega
    have hk1 : k ≤ acts.length := by omega
    have HKL : Hid (k ≤ 1048576) := Lib.hid (by omega)
    clear hmk hinv hmt hrun HR0
    by_cases hlt : k < acts.length ∧ k < 60
    · have hki : (k : Int) < acts.length := by omega
      have hk60 : (k : Int) < 60 := by omega
      have HLT := Lib.hid hlt.1
      obtain ⟨b1, o1, c1, cs1, e1, -, -, hn1, -, g1, q1⟩ := ReadsD.item (f := actD) (HA.out.keep HLOW.out.size fun k hk _ => HLOW.out.block k hk) hlt.1
      injection e1 with e1 e2 e3
      subst e1
      clear e2 e3
      generalize acts[k] = x at *
      clear hlt
      have HRG := Lib.hid (show w5.rangeAt b1 (o1 + k * 19) cs1 from g1 w5 (Below.refl _ _))
      have HN19 := Lib.hid hn1
      have HST := Lib.hid (step_any HR.out HINV.out HMT.out HKL.out x cs1 q1)
      clear g1 q1 hn1
      go_wp2_with (refine wpList_load_mid rfl 54 (.tmp 52) rfl b1 (o1 + k * 19) rfl cs1 _ HRG.out Try.underlying54 rfl (by rw [HN19.out]; kernel_rfl) ?_)
      refine HST.out.mono ?_
      rintro e w6 ⟨rfl, s6, r6, h6, hv6, hm6⟩
      have HAL := Lib.hid (alike_any h6 hv6 hm6 (Nat.succ_le_succ HKL.out))
      have H6 := Lib.hid h6
      have HV6 := Lib.hid hv6
      have HM6 := Lib.hid hm6
      clear h6 hv6 hm6 HST
      go_wp2_with fail
      refine HAL.out.mono ?_
      rintro e w7 ⟨rfl, hb7⟩
      have H7 := Lib.hid (H6.out.on hb7)
      clear hb7 HAL
      go_wp2_with fail
      go_roundg (acts.length - (k + 1))
      case measure => have := HM.out; have := HLT.out; omega
      case rel => exact ⟨k + 1, by have := HLT.out; omega, by go_num, _, _, H7.out, HV6.out, HM6.out⟩
    · by_cases h1 : k < acts.length
      case' pos => have hd1 : (k : Int) < acts.length := by omega
      case' pos => have hd2 : ¬ (k : Int) < 60 := by omega
      case' neg => have hd1 : ¬ (k : Int) < acts.length := by omega
      all_goals
        clear hlt h1
        go_wp2_with fail
        exact HF.out _ _ ⟨rfl, HLOW.out⟩
theorem contract (H : Type) (enc : TypeId × Value → H) (W : World) (base : Nat) (args : Array Value) (ds gs : List (DataW H)) (before : List MemPlace)
    (hval0 : ∀ (j : Nat) t v, Try.f5.params[j]? = some t → args[j]? = some v → Value.okWide Try.prog W .any base t v)
    (hW : DataW.Whole enc Try.prog Try.f5.params.toList Rows.netExactSpec.vars false W args.toList ds gs before) (hk : Rows.uptoSmall H (ds ++ gs) = true) :
    Calls Try.prog 5 args W fun e W' => ∃ v, e = .returned v ∧ Rows.netExactSpec.post enc Try.prog Try.f5 false true false false W args v W' := by
  have hval : ∀ (j : Nat) t v, Try.f5.params[j]? = some t → args[j]? = some v → Value.okWide Try.prog W .any base t v := hval0
  have hW' := hW
  obtain ⟨p, q, hA0, hV, rfl, hfz, hnd⟩ := hW
  have hA : DataW.TrodAll enc Try.prog W 0 (fun _ => true) true Try.f5.params.toList args.toList ds p := hA0
  rw [Try.params5] at hA hval
  have hfp := free_left hfz
  obtain ⟨v0, vs0, d0, ds0, p0, q0, hargs, rfl, rfl, t0, r0⟩ := trodAll_cons hA
  obtain ⟨v1, vs1, d1, ds1, p1, q1, rfl, rfl, rfl, t1, r1⟩ := trodAll_cons r0
  obtain ⟨rfl, rfl, rfl⟩ := trodAll_nil r1
  obtain rfl : args = #[v0, v1] := by cases args; simp_all
  obtain ⟨rfl, rfl⟩ := trodVars_none hV
  have hbk : Rows.uptoBulkAll [d0, d1] ≤ 1048576 := by simpa only [List.append_nil] using (of_decide_eq_true hk : Rows.uptoBulkAll _ ≤ 1048576)
  simp only [Rows.uptoBulkAll] at hbk
  clear hk
  obtain ⟨x0, rfl⟩ := okWide_int Try.underlying3 (hval 0 3 v0 rfl rfl)
  obtain ⟨a1, l1, k1, rfl⟩ := okWide_slice Try.underlying49 (hval 1 49 v1 rfl rfl)
  obtain ⟨u1, t1⟩ := t1
  simp only [Value.cells] at t1
  obtain ⟨x1, h1⟩ := ls_act t1 (free_left (free_right (hfp))) (by show Rows.uptoBulk d1 ≤ 1048576; omega)
  refine (walk x0 _ x1 W h1).mono fun e W' ⟨he, hb⟩ => ?_
  subst he
  exact ⟨_, rfl, law_post laidOut rfl (fun _ _ => rfl) (by kernel_rfl) Try.underlying4 (by rw [Try.params5]; exact fun t ht => by simp at ht; rcases ht with rfl | rfl; all_goals exact ⟨by kernel_rfl, of_decide_eq_true (by kernel_rfl)⟩) hW' hb⟩

theorem lifted (os : Os) (started : os.Started) (H : Type) (enc : TypeId × Value → H) (F : Stop.Interp) :
    ReturnsInHanded {} Try.checked os 5 .any ((Rows.OpenSpec.upto Rows.netExactSpec).pre6 enc Try.prog Try.f5 Rows.netExactUptoRow.domain false) (((Rows.OpenSpec.upto Rows.netExactSpec).at F).post enc Try.prog Try.f5 false true false false) := by
  refine returnsInHanded_of_cond (C := Try.checked) (s := (Rows.OpenSpec.upto Rows.netExactSpec)) (k := Rows.uptoSmall) rfl own started (by kernel_rfl) Try.func5
    (OpenSpec.witness (enc := enc) (C := Try.checked) (s := (Rows.OpenSpec.upto Rows.netExactSpec)) (k := Rows.uptoSmall) rfl false ⟨#[], #[.int .i64 0, .slice none 0 0], []⟩ 8 (by kernel_rfl) (by kernel_rfl) (by kernel_rfl)
      (x := ([.lit (.int .i64 0), .nil], [], [])) (by kernel_rfl) rfl (by kernel_rfl)) ?_
  intro W base args ds gs before hval hW _ hk _
  exact contract H enc W base args ds gs before hval hW hk

theorem proved : Rows.NetExactUptoSaid :=
  OpenClaim.holds_of_cond 5 Try.f5 rfl rfl rfl rfl rfl rfl rfl ⟨rfl, rfl, rfl, rfl, rfl⟩ rfl rfl rfl rfl rfl (by kernel_rfl) Try.func5 (by kernel_rfl)
    (of_decide_eq_true (by kernel_rfl)) (by unfold Func.isWrapper; first | (rw [if_pos (by decide +kernel)]; kernel_rfl) | (rw [if_neg (by decide +kernel)]; exact ⟨rfl, rfl⟩))
    (fun os started H enc _ F => lifted os started H enc F)
end Go.Proofs.Ytmcdmcnbnnfhnaa.netExact
