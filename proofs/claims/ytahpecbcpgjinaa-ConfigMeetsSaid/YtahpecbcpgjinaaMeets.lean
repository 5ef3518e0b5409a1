/-
  ConfigMeets: for every genesis, all lists and sets the law returns true, and what came in reads behind the call as before. No condition.
-/
import Derived.Test.YtahpecbcpgjinaaDd
namespace Go.Proofs.Ytahpecbcpgjinaa.configMeets
open Go.ChangeShapes Go.WideShapes Go.ChangeAt Go.RowKit

theorem plain {M R : Int} {F xs ys : List Int} {B Ms C : List Cmd} (hx : quorateB M R F B (B ++ Ms) xs = true) (hy : quorateB M R F (B ++ Ms) (B ++ (Ms ++ C)) ys = true) :
    (membersL M R F (B ++ Ms)).length ≤ 12 ∧ 0 < (partL (partL (membersL M R F (B ++ Ms)) xs true) ys true).length ∧ (M = 2 → faultsN M (membersL M R F (B ++ Ms)).length < (partL (partL (membersL M R F (B ++ Ms)) xs true) ys true).length) := by
  rw [← List.append_assoc] at hy
  have h1 := quorate_every hx (D := B ++ Ms) (fun c hc _ => List.mem_append_left _ hc) (fun c hc _ => hc)
  have h2 := quorate_every hy (D := B ++ Ms) (fun c hc _ => hc) (fun c hc _ => List.mem_append_left _ hc)
  obtain ⟨a, b⟩ := meets h1 h2
  rw [partL_len, show partL (membersL M R F (B ++ Ms)) xs true = (membersL M R F (B ++ Ms)).filter fun r => decide (r ∈ xs) by unfold partL; congr 1; funext r; simp]
  exact ⟨isQ_size h1, a, b⟩

set_option maxRecDepth 100000 in
set_option maxHeartbeats 4000000 in
theorem walk (g vB vM vC vx vy : Value) (M R : Int) (F xs ys : List Int) (B Ms C : List Cmd) (W : World) (hg : Gen W g M R F) (hb : ReadsC W vB B) (hm : ReadsC W vM Ms) (hc : ReadsC W vC C) (hx : Reads vi W vx xs) (hy : Reads vi W vy ys) :
    Calls Try.prog 10 #[g, vB, vM, vC, vx, vy] W (BoolMade W true) := by
  have HG := Lib.hid (And.intro hg (And.intro hb (And.intro hm (And.intro hc (And.intro hx hy)))))
  obtain ⟨vF, cl, vA, vO, rfl, hF, ⟨a2, n2, k2, rfl⟩, ⟨a3, n3, k3, rfl⟩⟩ := hg
  obtain ⟨a1, n1, k1, rfl⟩ := Slc.of_reads hF
  obtain ⟨aoM, cM, rfl, hM1, hM2, _, _⟩ := hm
  obtain ⟨aox, cx, rfl, hx1, hx2, _, _⟩ := hx
  obtain ⟨aoy, cy, rfl, hy1, hy2, _, _⟩ := hy
  unfold maxLen at hM2 hx2 hy2
  clear hF hb hc
  unfold gen at *
  have HP := Lib.hid (@plain M R F xs ys B Ms C)
  by_cases b0 : largeB F B C = true
  · have HLA := Lib.hid b0
    clear b0
    go_enter Try.func10, Try.ntmps10
    go_wp2_with fail
    refine (awake_any _).mono ?_
    rintro e w2 ⟨rfl, hb⟩
    have KB := Lib.hid ((Blk.new W 25 #[.int .i64 M, .int .i64 R, .slice a1 n1 k1, .int .i64 cl, .slice a2 n2 k2, .slice a3 n3 k3]).on hb)
    have KW := Lib.hid (((Below.refl W.heap.size W).alloc (Nat.le_refl _) (.cells #[.int .i64 M, .int .i64 R, .slice a1 n1 k1, .int .i64 cl, .slice a2 n2 k2, .slice a3 n3 k3] 25)).trans (hb.mono (by simp)))
    clear hb
    obtain ⟨c0, c1, c2, c3, c4, c5, hlt⟩ := blk6 KB.out
    go_wp2_with fail
    refine (large_any _ vB vC M R F B C _ (HG.out.1.on KW.out) (HG.out.2.1.on KW.out) (HG.out.2.2.2.1.on KW.out)).mono ?_
    rintro e w3 ⟨rfl, hb⟩
    replace KB := Lib.hid (KB.out.on hb)
    replace KW := Lib.hid (KW.out.trans (hb.mono KW.out.size))
    clear hb
    clear c0 c1 c2 c3 c4 c5 hlt
    obtain ⟨c0, c1, c2, c3, c4, c5, hlt⟩ := blk6 KB.out
    rw [HLA.out]
    go_wp2
    go_ret
    exact ⟨rfl, KW.out⟩
  · have HLA := Lib.hid (Bool.eq_false_iff.2 b0)
    have hBC : B.length ≤ 40 ∧ C.length ≤ 40 := by
      have := HLA.out
      unfold largeB at this
      simp only [Bool.or_eq_false_iff, decide_eq_false_iff_not] at this
      omega
    obtain ⟨hB40, hC40⟩ := hBC
    clear b0
    by_cases b1 : 40 < Ms.length
    · have e1 : decide ((40 : Int) < Ms.length) = true := decide_eq_true (by omega)
      go_enter Try.func10, Try.ntmps10
      go_wp2_with fail
      refine (awake_any _).mono ?_
      rintro e w2 ⟨rfl, hb⟩
      have KB := Lib.hid ((Blk.new W 25 #[.int .i64 M, .int .i64 R, .slice a1 n1 k1, .int .i64 cl, .slice a2 n2 k2, .slice a3 n3 k3]).on hb)
      have KW := Lib.hid (((Below.refl W.heap.size W).alloc (Nat.le_refl _) (.cells #[.int .i64 M, .int .i64 R, .slice a1 n1 k1, .int .i64 cl, .slice a2 n2 k2, .slice a3 n3 k3] 25)).trans (hb.mono (by simp)))
      clear hb
      obtain ⟨c0, c1, c2, c3, c4, c5, hlt⟩ := blk6 KB.out
      go_wp2_with fail
      refine (large_any _ vB vC M R F B C _ (HG.out.1.on KW.out) (HG.out.2.1.on KW.out) (HG.out.2.2.2.1.on KW.out)).mono ?_
      rintro e w3 ⟨rfl, hb⟩
      replace KB := Lib.hid (KB.out.on hb)
      replace KW := Lib.hid (KW.out.trans (hb.mono KW.out.size))
      clear hb
      clear c0 c1 c2 c3 c4 c5 hlt
      obtain ⟨c0, c1, c2, c3, c4, c5, hlt⟩ := blk6 KB.out
      rw [HLA.out]
      go_wp2
      go_ret
      exact ⟨rfl, KW.out⟩
    · have e1 : decide ((40 : Int) < Ms.length) = false := decide_eq_false (by omega)
      by_cases b2 : 40 < xs.length
      · have e2 : decide ((40 : Int) < xs.length) = true := decide_eq_true (by omega)
        go_enter Try.func10, Try.ntmps10
        go_wp2_with fail
        refine (awake_any _).mono ?_
        rintro e w2 ⟨rfl, hb⟩
        have KB := Lib.hid ((Blk.new W 25 #[.int .i64 M, .int .i64 R, .slice a1 n1 k1, .int .i64 cl, .slice a2 n2 k2, .slice a3 n3 k3]).on hb)
        have KW := Lib.hid (((Below.refl W.heap.size W).alloc (Nat.le_refl _) (.cells #[.int .i64 M, .int .i64 R, .slice a1 n1 k1, .int .i64 cl, .slice a2 n2 k2, .slice a3 n3 k3] 25)).trans (hb.mono (by simp)))
        clear hb
        obtain ⟨c0, c1, c2, c3, c4, c5, hlt⟩ := blk6 KB.out
        go_wp2_with fail
        refine (large_any _ vB vC M R F B C _ (HG.out.1.on KW.out) (HG.out.2.1.on KW.out) (HG.out.2.2.2.1.on KW.out)).mono ?_
        rintro e w3 ⟨rfl, hb⟩
        replace KB := Lib.hid (KB.out.on hb)
        replace KW := Lib.hid (KW.out.trans (hb.mono KW.out.size))
        clear hb
        clear c0 c1 c2 c3 c4 c5 hlt
        obtain ⟨c0, c1, c2, c3, c4, c5, hlt⟩ := blk6 KB.out
        rw [HLA.out]
        go_wp2
        go_ret
        exact ⟨rfl, KW.out⟩
      · have e2 : decide ((40 : Int) < xs.length) = false := decide_eq_false (by omega)
        by_cases b3 : 40 < ys.length
        · have e3 : decide ((40 : Int) < ys.length) = true := decide_eq_true (by omega)
          go_enter Try.func10, Try.ntmps10
          go_wp2_with fail
          refine (awake_any _).mono ?_
          rintro e w2 ⟨rfl, hb⟩
          have KB := Lib.hid ((Blk.new W 25 #[.int .i64 M, .int .i64 R, .slice a1 n1 k1, .int .i64 cl, .slice a2 n2 k2, .slice a3 n3 k3]).on hb)
          have KW := Lib.hid (((Below.refl W.heap.size W).alloc (Nat.le_refl _) (.cells #[.int .i64 M, .int .i64 R, .slice a1 n1 k1, .int .i64 cl, .slice a2 n2 k2, .slice a3 n3 k3] 25)).trans (hb.mono (by simp)))
          clear hb
          obtain ⟨c0, c1, c2, c3, c4, c5, hlt⟩ := blk6 KB.out
          go_wp2_with fail
          refine (large_any _ vB vC M R F B C _ (HG.out.1.on KW.out) (HG.out.2.1.on KW.out) (HG.out.2.2.2.1.on KW.out)).mono ?_
          rintro e w3 ⟨rfl, hb⟩
          replace KB := Lib.hid (KB.out.on hb)
          replace KW := Lib.hid (KW.out.trans (hb.mono KW.out.size))
          clear hb
          clear c0 c1 c2 c3 c4 c5 hlt
          obtain ⟨c0, c1, c2, c3, c4, c5, hlt⟩ := blk6 KB.out
          rw [HLA.out]
          go_wp2
          go_ret
          exact ⟨rfl, KW.out⟩
        · have e3 : decide ((40 : Int) < ys.length) = false := decide_eq_false (by omega)
          by_cases b4 : quorateB M R F B (B ++ Ms) xs = true
          · have HQ1 := Lib.hid b4
            by_cases b5 : quorateB M R F (B ++ Ms) (B ++ (Ms ++ C)) ys = true
            · have HQ2 := Lib.hid b5
              obtain ⟨hp1, hp2, hp3⟩ := HP.out b4 b5
              clear b4 b5
              go_enter Try.func10, Try.ntmps10
              go_wp2_with fail
              refine (awake_any _).mono ?_
              rintro e w2 ⟨rfl, hb⟩
              have KB := Lib.hid ((Blk.new W 25 #[.int .i64 M, .int .i64 R, .slice a1 n1 k1, .int .i64 cl, .slice a2 n2 k2, .slice a3 n3 k3]).on hb)
              have KW := Lib.hid (((Below.refl W.heap.size W).alloc (Nat.le_refl _) (.cells #[.int .i64 M, .int .i64 R, .slice a1 n1 k1, .int .i64 cl, .slice a2 n2 k2, .slice a3 n3 k3] 25)).trans (hb.mono (by simp)))
              clear hb
              obtain ⟨c0, c1, c2, c3, c4, c5, hlt⟩ := blk6 KB.out
              go_wp2_with fail
              refine (large_any _ vB vC M R F B C _ (HG.out.1.on KW.out) (HG.out.2.1.on KW.out) (HG.out.2.2.2.1.on KW.out)).mono ?_
              rintro e w3 ⟨rfl, hb⟩
              replace KB := Lib.hid (KB.out.on hb)
              replace KW := Lib.hid (KW.out.trans (hb.mono KW.out.size))
              clear hb
              clear c0 c1 c2 c3 c4 c5 hlt
              obtain ⟨c0, c1, c2, c3, c4, c5, hlt⟩ := blk6 KB.out
              rw [HLA.out]
              go_wp2_with (at_builtin; refine append_cmds (w0 := w3) rfl (.tmp 38) (.tmp 39) rfl _ vB [] B rfl rfl (OwnC.empty (Below.refl _ _)) (SrcC.of_reads (HG.out.2.1.on KW.out) ((Below.refl _ _).alloc (Nat.le_refl _) _)) (by simp; omega) ?_)
              intro va wa hown
              have HA := Lib.hid hown
              clear hown
              go_wp2_with (at_builtin; refine append_cmds (w0 := w3) rfl (.tmp 40) (.tmp 41) rfl va _ (B) Ms rfl rfl HA.out (SrcC.of_reads (HG.out.2.2.1.on KW.out) HA.out.1) (by omega) ?_)
              intro vm w4 hown
              have hb := hown.1
              replace KB := Lib.hid (KB.out.on hb)
              replace KW := Lib.hid (KW.out.trans (hb.mono KW.out.size))
              clear hb
              clear c0 c1 c2 c3 c4 c5 hlt
              obtain ⟨c0, c1, c2, c3, c4, c5, hlt⟩ := blk6 KB.out
              have HM := Lib.hid hown.reads
              clear hown HA
              have hBM : (B ++ Ms).length ≤ 80 := by simp; omega
              go_wp2_with (at_builtin; refine append_cmds (w0 := w4) rfl (.tmp 43) (.tmp 44) rfl _ vm [] (B ++ Ms) rfl rfl (OwnC.empty (Below.refl _ _)) (SrcC.of_reads (HM.out) ((Below.refl _ _).alloc (Nat.le_refl _) _)) (by simp; omega) ?_)
              intro va wa hown
              have HA := Lib.hid hown
              clear hown
              go_wp2_with (at_builtin; refine append_cmds (w0 := w4) rfl (.tmp 45) (.tmp 46) rfl va vC ((B ++ Ms)) C rfl rfl HA.out (SrcC.of_reads (HG.out.2.2.2.1.on KW.out) HA.out.1) (by omega) ?_)
              intro vc w5 hown
              have hb := hown.1
              replace KB := Lib.hid (KB.out.on hb)
              replace KW := Lib.hid (KW.out.trans (hb.mono KW.out.size))
              replace HM := Lib.hid (HM.out.on hb)
              clear hb
              clear c0 c1 c2 c3 c4 c5 hlt
              obtain ⟨c0, c1, c2, c3, c4, c5, hlt⟩ := blk6 KB.out
              have HC := Lib.hid hown.reads
              clear hown HA
              go_wp2_with fail
              refine (quorate_any _ vB vm _ M R F B (B ++ Ms) xs _ (HG.out.1.on KW.out) (HG.out.2.1.on KW.out) HM.out (HG.out.2.2.2.2.1.keep KW.out)).mono ?_
              rintro e w6 ⟨rfl, hb⟩
              replace KB := Lib.hid (KB.out.on hb)
              replace KW := Lib.hid (KW.out.trans (hb.mono KW.out.size))
              replace HM := Lib.hid (HM.out.on hb)
              replace HC := Lib.hid (HC.out.on hb)
              clear hb
              clear c0 c1 c2 c3 c4 c5 hlt
              obtain ⟨c0, c1, c2, c3, c4, c5, hlt⟩ := blk6 KB.out
              rw [HQ1.out]
              go_wp2_with fail
              refine (quorate_any _ vm vc _ M R F (B ++ Ms) (B ++ (Ms ++ C)) ys _ (HG.out.1.on KW.out) HM.out HC.out (HG.out.2.2.2.2.2.keep KW.out)).mono ?_
              rintro e w7 ⟨rfl, hb⟩
              replace KB := Lib.hid (KB.out.on hb)
              replace KW := Lib.hid (KW.out.trans (hb.mono KW.out.size))
              replace HM := Lib.hid (HM.out.on hb)
              replace HC := Lib.hid (HC.out.on hb)
              clear hb
              clear c0 c1 c2 c3 c4 c5 hlt
              obtain ⟨c0, c1, c2, c3, c4, c5, hlt⟩ := blk6 KB.out
              rw [HQ2.out]
              go_wp2_with fail
              refine (members_any _ vm M R F (B ++ Ms) _ (HG.out.1.on KW.out) HM.out).mono ?_
              rintro e w8 ⟨vd, rfl, hr, hb⟩
              replace KB := Lib.hid (KB.out.on hb)
              replace KW := Lib.hid (KW.out.trans (hb.mono KW.out.size))
              replace HM := Lib.hid (HM.out.on hb)
              replace HC := Lib.hid (HC.out.on hb)
              clear hb
              clear c0 c1 c2 c3 c4 c5 hlt
              obtain ⟨c0, c1, c2, c3, c4, c5, hlt⟩ := blk6 KB.out
              have HD := Lib.hid hr
              clear hr
              generalize membersL M R F (B ++ Ms) = dl at *
              go_wp2_with fail
              refine (part_any vd _ dl xs true _ HD.out (HG.out.2.2.2.2.1.keep KW.out) (by omega)).mono ?_
              rintro e w9 ⟨ve, rfl, hr, hb⟩
              replace KB := Lib.hid (KB.out.on hb)
              replace KW := Lib.hid (KW.out.trans (hb.mono KW.out.size))
              replace HM := Lib.hid (HM.out.on hb)
              replace HC := Lib.hid (HC.out.on hb)
              replace HD := Lib.hid (HD.out.keep hb)
              clear hb
              clear c0 c1 c2 c3 c4 c5 hlt
              obtain ⟨c0, c1, c2, c3, c4, c5, hlt⟩ := blk6 KB.out
              have HE := Lib.hid hr
              clear hr
              have hpl : (partL dl xs true).length ≤ 12 := by unfold partL; exact Nat.le_trans (List.length_filter_le _ _) hp1
              go_wp2_with fail
              refine (part_any ve _ (partL dl xs true) ys true _ HE.out (HG.out.2.2.2.2.2.keep KW.out) (by omega)).mono ?_
              rintro e w10 ⟨vf, rfl, hr, hb⟩
              replace KB := Lib.hid (KB.out.on hb)
              replace KW := Lib.hid (KW.out.trans (hb.mono KW.out.size))
              replace HM := Lib.hid (HM.out.on hb)
              replace HC := Lib.hid (HC.out.on hb)
              replace HD := Lib.hid (HD.out.keep hb)
              replace HE := Lib.hid (HE.out.keep hb)
              clear hb
              clear c0 c1 c2 c3 c4 c5 hlt
              obtain ⟨c0, c1, c2, c3, c4, c5, hlt⟩ := blk6 KB.out
              have HF2 := Lib.hid hr
              clear hr
              have hpl2 : (partL (partL dl xs true) ys true).length ≤ 12 := by unfold partL at hpl ⊢; exact Nat.le_trans (List.length_filter_le _ _) hpl
              generalize partL (partL dl xs true) ys true = cm at *
              obtain ⟨aof, cf, rfl, _, hf2, _, _⟩ := HF2.out
              obtain ⟨aod, cd, rfl, _, hd2, _, _⟩ := HD.out
              unfold maxLen at hf2 hd2
              clear HE HM HC HQ1 HQ2
              have z1 : decide ((0 : Int) < (cm.length : Int)) = true := decide_eq_true (by omega)
              have z2 : decide (0 < cm.length) = true := decide_eq_true (by omega)
              by_cases hM : M = 2
              · have m1 : (M != 2) = false := bne_f hM
                have hlt3 := hp3 hM
                clear hM hp3
                go_wp2_with fail
                refine (faults_any M dl.length _ (by unfold maxLen; omega)).mono ?_
                rintro e w11 ⟨rfl, rfl⟩
                have z3 : decide (faultsN M dl.length < cm.length) = true := decide_eq_true hlt3
                have z4 : decide (((faultsN M dl.length : Nat) : Int) < (cm.length : Int)) = true := decide_eq_true (by omega)
                generalize faultsN M dl.length = fl at *
                go_wp2
                go_ret
                exact ⟨rfl, KW.out⟩
              · have m1 : (M != 2) = true := bne_t hM
                clear hM hp3
                go_wp2
                go_ret
                exact ⟨rfl, KW.out⟩
            · have HQ2 := Lib.hid (Bool.eq_false_iff.2 b5)
              clear b4 b5
              go_enter Try.func10, Try.ntmps10
              go_wp2_with fail
              refine (awake_any _).mono ?_
              rintro e w2 ⟨rfl, hb⟩
              have KB := Lib.hid ((Blk.new W 25 #[.int .i64 M, .int .i64 R, .slice a1 n1 k1, .int .i64 cl, .slice a2 n2 k2, .slice a3 n3 k3]).on hb)
              have KW := Lib.hid (((Below.refl W.heap.size W).alloc (Nat.le_refl _) (.cells #[.int .i64 M, .int .i64 R, .slice a1 n1 k1, .int .i64 cl, .slice a2 n2 k2, .slice a3 n3 k3] 25)).trans (hb.mono (by simp)))
              clear hb
              obtain ⟨c0, c1, c2, c3, c4, c5, hlt⟩ := blk6 KB.out
              go_wp2_with fail
              refine (large_any _ vB vC M R F B C _ (HG.out.1.on KW.out) (HG.out.2.1.on KW.out) (HG.out.2.2.2.1.on KW.out)).mono ?_
              rintro e w3 ⟨rfl, hb⟩
              replace KB := Lib.hid (KB.out.on hb)
              replace KW := Lib.hid (KW.out.trans (hb.mono KW.out.size))
              clear hb
              clear c0 c1 c2 c3 c4 c5 hlt
              obtain ⟨c0, c1, c2, c3, c4, c5, hlt⟩ := blk6 KB.out
              rw [HLA.out]
              go_wp2_with (at_builtin; refine append_cmds (w0 := w3) rfl (.tmp 38) (.tmp 39) rfl _ vB [] B rfl rfl (OwnC.empty (Below.refl _ _)) (SrcC.of_reads (HG.out.2.1.on KW.out) ((Below.refl _ _).alloc (Nat.le_refl _) _)) (by simp; omega) ?_)
              intro va wa hown
              have HA := Lib.hid hown
              clear hown
              go_wp2_with (at_builtin; refine append_cmds (w0 := w3) rfl (.tmp 40) (.tmp 41) rfl va _ (B) Ms rfl rfl HA.out (SrcC.of_reads (HG.out.2.2.1.on KW.out) HA.out.1) (by omega) ?_)
              intro vm w4 hown
              have hb := hown.1
              replace KB := Lib.hid (KB.out.on hb)
              replace KW := Lib.hid (KW.out.trans (hb.mono KW.out.size))
              clear hb
              clear c0 c1 c2 c3 c4 c5 hlt
              obtain ⟨c0, c1, c2, c3, c4, c5, hlt⟩ := blk6 KB.out
              have HM := Lib.hid hown.reads
              clear hown HA
              have hBM : (B ++ Ms).length ≤ 80 := by simp; omega
              go_wp2_with (at_builtin; refine append_cmds (w0 := w4) rfl (.tmp 43) (.tmp 44) rfl _ vm [] (B ++ Ms) rfl rfl (OwnC.empty (Below.refl _ _)) (SrcC.of_reads (HM.out) ((Below.refl _ _).alloc (Nat.le_refl _) _)) (by simp; omega) ?_)
              intro va wa hown
              have HA := Lib.hid hown
              clear hown
              go_wp2_with (at_builtin; refine append_cmds (w0 := w4) rfl (.tmp 45) (.tmp 46) rfl va vC ((B ++ Ms)) C rfl rfl HA.out (SrcC.of_reads (HG.out.2.2.2.1.on KW.out) HA.out.1) (by omega) ?_)
              intro vc w5 hown
              have hb := hown.1
              replace KB := Lib.hid (KB.out.on hb)
              replace KW := Lib.hid (KW.out.trans (hb.mono KW.out.size))
              replace HM := Lib.hid (HM.out.on hb)
              clear hb
              clear c0 c1 c2 c3 c4 c5 hlt
              obtain ⟨c0, c1, c2, c3, c4, c5, hlt⟩ := blk6 KB.out
              have HC := Lib.hid hown.reads
              clear hown HA
              go_wp2_with fail
              refine (quorate_any _ vB vm _ M R F B (B ++ Ms) xs _ (HG.out.1.on KW.out) (HG.out.2.1.on KW.out) HM.out (HG.out.2.2.2.2.1.keep KW.out)).mono ?_
              rintro e w6 ⟨rfl, hb⟩
              replace KB := Lib.hid (KB.out.on hb)
              replace KW := Lib.hid (KW.out.trans (hb.mono KW.out.size))
              replace HM := Lib.hid (HM.out.on hb)
              replace HC := Lib.hid (HC.out.on hb)
              clear hb
              clear c0 c1 c2 c3 c4 c5 hlt
              obtain ⟨c0, c1, c2, c3, c4, c5, hlt⟩ := blk6 KB.out
              rw [HQ1.out]
              go_wp2_with fail
              refine (quorate_any _ vm vc _ M R F (B ++ Ms) (B ++ (Ms ++ C)) ys _ (HG.out.1.on KW.out) HM.out HC.out (HG.out.2.2.2.2.2.keep KW.out)).mono ?_
              rintro e w7 ⟨rfl, hb⟩
              replace KB := Lib.hid (KB.out.on hb)
              replace KW := Lib.hid (KW.out.trans (hb.mono KW.out.size))
              replace HM := Lib.hid (HM.out.on hb)
              replace HC := Lib.hid (HC.out.on hb)
              clear hb
              clear c0 c1 c2 c3 c4 c5 hlt
              obtain ⟨c0, c1, c2, c3, c4, c5, hlt⟩ := blk6 KB.out
              rw [HQ2.out]
              go_wp2
              go_ret
              exact ⟨rfl, KW.out⟩
          · have HQ1 := Lib.hid (Bool.eq_false_iff.2 b4)
            clear b4
            go_enter Try.func10, Try.ntmps10
            go_wp2_with fail
            refine (awake_any _).mono ?_
            rintro e w2 ⟨rfl, hb⟩
            have KB := Lib.hid ((Blk.new W 25 #[.int .i64 M, .int .i64 R, .slice a1 n1 k1, .int .i64 cl, .slice a2 n2 k2, .slice a3 n3 k3]).on hb)
            have KW := Lib.hid (((Below.refl W.heap.size W).alloc (Nat.le_refl _) (.cells #[.int .i64 M, .int .i64 R, .slice a1 n1 k1, .int .i64 cl, .slice a2 n2 k2, .slice a3 n3 k3] 25)).trans (hb.mono (by simp)))
            clear hb
            obtain ⟨c0, c1, c2, c3, c4, c5, hlt⟩ := blk6 KB.out
            go_wp2_with fail
            refine (large_any _ vB vC M R F B C _ (HG.out.1.on KW.out) (HG.out.2.1.on KW.out) (HG.out.2.2.2.1.on KW.out)).mono ?_
            rintro e w3 ⟨rfl, hb⟩
            replace KB := Lib.hid (KB.out.on hb)
            replace KW := Lib.hid (KW.out.trans (hb.mono KW.out.size))
            clear hb
            clear c0 c1 c2 c3 c4 c5 hlt
            obtain ⟨c0, c1, c2, c3, c4, c5, hlt⟩ := blk6 KB.out
            rw [HLA.out]
            go_wp2_with (at_builtin; refine append_cmds (w0 := w3) rfl (.tmp 38) (.tmp 39) rfl _ vB [] B rfl rfl (OwnC.empty (Below.refl _ _)) (SrcC.of_reads (HG.out.2.1.on KW.out) ((Below.refl _ _).alloc (Nat.le_refl _) _)) (by simp; omega) ?_)
            intro va wa hown
            have HA := Lib.hid hown
            clear hown
            go_wp2_with (at_builtin; refine append_cmds (w0 := w3) rfl (.tmp 40) (.tmp 41) rfl va _ (B) Ms rfl rfl HA.out (SrcC.of_reads (HG.out.2.2.1.on KW.out) HA.out.1) (by omega) ?_)
            intro vm w4 hown
            have hb := hown.1
            replace KB := Lib.hid (KB.out.on hb)
            replace KW := Lib.hid (KW.out.trans (hb.mono KW.out.size))
            clear hb
            clear c0 c1 c2 c3 c4 c5 hlt
            obtain ⟨c0, c1, c2, c3, c4, c5, hlt⟩ := blk6 KB.out
            have HM := Lib.hid hown.reads
            clear hown HA
            have hBM : (B ++ Ms).length ≤ 80 := by simp; omega
            go_wp2_with (at_builtin; refine append_cmds (w0 := w4) rfl (.tmp 43) (.tmp 44) rfl _ vm [] (B ++ Ms) rfl rfl (OwnC.empty (Below.refl _ _)) (SrcC.of_reads (HM.out) ((Below.refl _ _).alloc (Nat.le_refl _) _)) (by simp; omega) ?_)
            intro va wa hown
            have HA := Lib.hid hown
            clear hown
            go_wp2_with (at_builtin; refine append_cmds (w0 := w4) rfl (.tmp 45) (.tmp 46) rfl va vC ((B ++ Ms)) C rfl rfl HA.out (SrcC.of_reads (HG.out.2.2.2.1.on KW.out) HA.out.1) (by omega) ?_)
            intro vc w5 hown
            have hb := hown.1
            replace KB := Lib.hid (KB.out.on hb)
            replace KW := Lib.hid (KW.out.trans (hb.mono KW.out.size))
            replace HM := Lib.hid (HM.out.on hb)
            clear hb
            clear c0 c1 c2 c3 c4 c5 hlt
            obtain ⟨c0, c1, c2, c3, c4, c5, hlt⟩ := blk6 KB.out
            have HC := Lib.hid hown.reads
            clear hown HA
            go_wp2_with fail
            refine (quorate_any _ vB vm _ M R F B (B ++ Ms) xs _ (HG.out.1.on KW.out) (HG.out.2.1.on KW.out) HM.out (HG.out.2.2.2.2.1.keep KW.out)).mono ?_
            rintro e w6 ⟨rfl, hb⟩
            replace KB := Lib.hid (KB.out.on hb)
            replace KW := Lib.hid (KW.out.trans (hb.mono KW.out.size))
            replace HM := Lib.hid (HM.out.on hb)
            replace HC := Lib.hid (HC.out.on hb)
            clear hb
            clear c0 c1 c2 c3 c4 c5 hlt
            obtain ⟨c0, c1, c2, c3, c4, c5, hlt⟩ := blk6 KB.out
            rw [HQ1.out]
            go_wp2
            go_ret
            exact ⟨rfl, KW.out⟩

set_option maxRecDepth 100000 in
theorem lifted (os : Os) (started : os.Started) (H : Type) (enc : TypeId × Value → H) :
    ReturnsInHanded {} Try.checked os 10 .any (Rows.configMeetsSpec.pre6 enc Try.prog Try.f10 Rows.configMeetsRow.domain false) (Rows.configMeetsSpec.post enc Try.prog Try.f10 false true false false) := by
  refine returnsInHanded_of_change (C := Try.checked) own started (by kernel_rfl) Try.func10
    (ChangeSpec.witness6 (enc := enc) (C := Try.checked) false ⟨#[], #[.agg #[.int .i64 0, .int .i64 0, .slice none 0 0, .int .i64 0, .slice none 0 0, .slice none 0 0], .slice none 0 0, .slice none 0 0, .slice none 0 0, .slice none 0 0, .slice none 0 0], []⟩ 8 (by kernel_rfl) (by kernel_rfl) (by kernel_rfl) (by kernel_rfl)) ?_
  intro W base args ds gs before hval0 hW hcnd _
  have hval : ∀ (j : Nat) t v, Try.f10.params[j]? = some t → args[j]? = some v → Value.okWide Try.prog W .any base t v := hval0
  have hW' := hW
  obtain ⟨p, q, hA0, hV, rfl, hfz, hnd⟩ := hW
  have hA : DataW.TrodAll enc Try.prog W 0 (fun _ => true) true Try.f10.params.toList args.toList ds p := hA0
  rw [Try.params10] at hA hval
  obtain ⟨v0, vs0, d0, ds0, p0, q0, hargs, rfl, rfl, t0, r0⟩ := trodAll_cons hA
  obtain ⟨v1, vs1, d1, ds1, p1, q1, rfl, rfl, rfl, t1, r1⟩ := trodAll_cons r0
  obtain ⟨v2, vs2, d2, ds2, p2, q2, rfl, rfl, rfl, t2, r2⟩ := trodAll_cons r1
  obtain ⟨v3, vs3, d3, ds3, p3, q3, rfl, rfl, rfl, t3, r3⟩ := trodAll_cons r2
  obtain ⟨v4, vs4, d4, ds4, p4, q4, rfl, rfl, rfl, t4, r4⟩ := trodAll_cons r3
  obtain ⟨v5, vs5, d5, ds5, p5, q5, rfl, rfl, rfl, t5, r5⟩ := trodAll_cons r4
  obtain ⟨rfl, rfl, rfl⟩ := trodAll_nil r5
  obtain rfl : args = #[v0, v1, v2, v3, v4, v5] := by cases args; simp_all
  obtain ⟨rfl, rfl⟩ := trodVars_none hV
  obtain ⟨m0, r0, f0, h0⟩ := open_gen (hval 0 25 v0 rfl rfl) t0
  obtain ⟨x1, h1⟩ := open_cmds (hval 1 26 v1 rfl rfl) t1
  obtain ⟨x2, h2⟩ := open_cmds (hval 2 26 v2 rfl rfl) t2
  obtain ⟨x3, h3⟩ := open_cmds (hval 3 26 v3 rfl rfl) t3
  obtain ⟨x4, h4⟩ := open_ilist (hval 4 22 v4 rfl rfl) t4
  obtain ⟨x5, h5⟩ := open_ilist (hval 5 22 v5 rfl rfl) t5
  refine (walk v0 v1 v2 v3 v4 v5 m0 r0 f0 x4 x5 x1 x2 x3 W h0 h1 h2 h3 h4 h5).mono fun e W' ⟨he, hb⟩ => ?_
  subst he
  exact ⟨_, rfl, law_post laidOut rfl (fun _ _ => rfl) (by kernel_rfl) Try.underlying4 (by rw [Try.params10]; exact fun t ht => by simp at ht; rcases ht with  rfl | rfl | rfl ; all_goals exact ⟨by kernel_rfl, of_decide_eq_true (by kernel_rfl)⟩) hW' hb⟩

theorem over : Rows.configMeetsRow.holds Try.pinned (OpenSpec.ofChange Rows.configMeetsSpec) :=
  OpenClaim.holds_of_wide 10 Try.f10 rfl rfl rfl rfl rfl rfl rfl ⟨rfl, rfl, rfl, rfl, rfl⟩ rfl rfl rfl rfl rfl (by kernel_rfl) Try.func10 (by kernel_rfl)
    (of_decide_eq_true (by kernel_rfl)) (by unfold Func.isWrapper; first | (rw [if_pos (by decide +kernel)]; kernel_rfl) | (rw [if_neg (by decide +kernel)]; exact ⟨rfl, rfl⟩))
    (fun os started H enc _ => lifted os started H enc)

theorem proved : Rows.ConfigMeetsSaid := over

end Go.Proofs.Ytahpecbcpgjinaa.configMeets
