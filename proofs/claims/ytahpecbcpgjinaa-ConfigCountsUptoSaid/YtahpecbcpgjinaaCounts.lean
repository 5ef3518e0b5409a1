/-
  ConfigCounts: for every genesis, all lists and every set the law returns true, and what came in reads behind the call as before. No condition.
-/
import Derived.Test.YtahpecbcpgjinaaDd
import Derived.Test.YtahpecbcpgjinaaBk
namespace Go.Proofs.Ytahpecbcpgjinaa.configCounts
open Go.ChangeShapes Go.WideShapes Go.ChangeAt Go.RowKit

theorem cnt_part (R : Int) (p : Int → Bool) (x : List Int) (b : Bool) : (partL ((reps R).filter p) x b).length = cnt (reps R) (fun r => p r && (decide (r ∈ x) == b)) := by
  unfold partL cnt
  rw [List.filter_filter]
  congr 1
  exact List.filter_congr fun r _ => Bool.and_comm _ _
theorem plain {M R : Int} {F x : List Int} {B Mo : List Cmd} (hu : usableB M R F = true) :
    quorateB M R F B (B ++ Mo) x = if mustL M R F B (B ++ Mo) = [] then decide ((partL (mustL M R F B (B ++ Mo)) x false).length + (partL (mayL M R F B (B ++ Mo)) x false).length = 0 ∧ F.headD 0 ∈ x)
      else gtM M ((partL (mustL M R F B (B ++ Mo)) x false).length + (partL (mayL M R F B (B ++ Mo)) x false).length) (partL (mustL M R F B (B ++ Mo)) x true).length := by
  have hok : okB M R F B (B ++ Mo) = true := ok_mk hu fun c hc _ => List.mem_append_left _ hc
  have e1 : mustL M R F B (B ++ Mo) = (reps R).filter (mustP F B (B ++ Mo)) := by unfold mustL; rw [if_pos hok]
  have e2 : mayL M R F B (B ++ Mo) = (reps R).filter (mayP F B (B ++ Mo)) := by unfold mayL; rw [if_pos hok]
  have hf : ∀ p : Int → Bool, cnt (reps R) (fun r => p r && (decide (r ∈ x) == false)) = cnt (reps R) (fun r => p r && !decide (r ∈ x)) := fun p => cnt_congr fun r _ => by cases decide (r ∈ x) <;> rfl
  have ht : ∀ p : Int → Bool, cnt (reps R) (fun r => p r && (decide (r ∈ x) == true)) = cnt (reps R) (fun r => p r && decide (r ∈ x)) := fun p => cnt_congr fun r _ => by cases decide (r ∈ x) <;> rfl
  rw [quorate_counts hok, e1, e2, cnt_part, cnt_part, cnt_part, hf, hf, ht]
  have h0 : (cnt (reps R) (mustP F B (B ++ Mo)) = 0) = ((reps R).filter (mustP F B (B ++ Mo)) = []) := by unfold cnt; rw [List.length_eq_zero_iff]
  simp only [h0]
  rfl
theorem part_one (f : Int) (x : List Int) : (partL [f] x true).length = if f ∈ x then 1 else 0 := by
  unfold partL
  by_cases h : f ∈ x <;> simp [h]
theorem must_le {M R : Int} {F : List Int} {B C : List Cmd} (hR : R ≤ 12) : (mustL M R F B C).length ≤ 12 := by
  unfold mustL
  split
  · have := List.length_filter_le (mustP F B C) (reps R); rw [reps_len] at this; omega
  · simp
theorem may_le {M R : Int} {F : List Int} {B C : List Cmd} (hR : R ≤ 12) : (mayL M R F B C).length ≤ 12 := by
  unfold mayL
  split
  · have := List.length_filter_le (mayP F B C) (reps R); rw [reps_len] at this; omega
  · simp
theorem part_le (xs ys : List Int) (b : Bool) : (partL xs ys b).length ≤ xs.length := List.length_filter_le _ _
theorem head_reads {w : World} {ao : Option Addr} {cap : Nat} {F : List Int} (h : Reads vi w (.slice ao F.length cap) F) (hF : F ≠ []) : Reads vi w (.slice ao 1 cap) [F.headD 0] := by
  obtain ⟨ao', cap', e, hl, hm, hn, hx⟩ := h
  injection e with e1 e2 e3
  subst e1 e3
  have hp : 0 < F.length := List.length_pos_iff.2 hF
  refine ⟨ao, cap, rfl, by simp; omega, hm, hn, fun _ => ?_⟩
  obtain ⟨b, off, rfl, hb, hc⟩ := hx hF
  refine ⟨b, off, rfl, hb, fun j hj => ?_⟩
  have hj0 : j = 0 := by rw [List.length_singleton] at hj; omega
  subst hj0
  have := hc 0 hp
  cases F with
  | nil => exact absurd rfl hF
  | cons f F => simpa only [List.headD_cons, List.getElem_cons_zero, List.getElem_singleton] using this

theorem bulk_reads {H : Type} {enc : TypeId × Value → H} {W : World} {t e : TypeId} {v : Value} {xs : List Cmd} {d : DataW H} {p : List MemPlace}
    (ht : Try.prog.underlying t = some (.slice e)) (h : DataW.Trod enc Try.prog W 0 (fun _ => true) true t v d p) (hr : ReadsC W v xs) : xs.length ≤ Rows.uptoBulk d := by
  obtain ⟨ao, cap, rfl, _⟩ := hr
  exact bulk_slice ht h

set_option maxRecDepth 100000 in
set_option maxHeartbeats 8000000 in
theorem walk (g vB vM vx : Value) (M R : Int) (F xs : List Int) (B Mo : List Cmd) (W : World) (hg : Gen W g M R F) (hb : ReadsC W vB B) (hm : ReadsC W vM Mo) (hx : Reads vi W vx xs) (hbm : B.length + Mo.length ≤ 1048576) :
    Calls Try.prog 7 #[g, vB, vM, vx] W (BoolMade W true) := by
  have HG := Lib.hid (And.intro hg (And.intro hb (And.intro hm hx)))
  obtain ⟨vF, cl, vA, vO, rfl, hF, ⟨a2, n2, k2, rfl⟩, ⟨a3, n3, k3, rfl⟩⟩ := hg
  have HF := Lib.hid hF
  obtain ⟨a1, k1, rfl, hF1, hF2, hFn, _⟩ := hF
  obtain ⟨aoB, cB, rfl, hB1, hB2, _, _⟩ := hb
  obtain ⟨aoM, cM, rfl, hM1, hM2, _, _⟩ := hm
  obtain ⟨aox, cx, rfl, hx1, hx2, _, _⟩ := hx
  unfold maxLen at hM2 hx2 hB2 hF2
  unfold gen at *
  by_cases b1 : 40 < B.length
  · have e1 : decide ((40 : Int) < B.length) = true := decide_eq_true (by omega)
    go_enter Try.func7, Try.ntmps7
    go_wp2_with fail
    refine (awake_any _).mono ?_
    rintro e w2 ⟨rfl, hb⟩
    have KB := Lib.hid ((Blk.new W 25 #[.int .i64 M, .int .i64 R, .slice a1 F.length k1, .int .i64 cl, .slice a2 n2 k2, .slice a3 n3 k3]).on hb)
    have KW := Lib.hid (((Below.refl W.heap.size W).alloc (Nat.le_refl _) (.cells #[.int .i64 M, .int .i64 R, .slice a1 F.length k1, .int .i64 cl, .slice a2 n2 k2, .slice a3 n3 k3] 25)).trans (hb.mono (by simp)))
    clear hb
    obtain ⟨c0, c1, c2, c3, c4, c5, hlt⟩ := blk6 KB.out
    go_wp2_with (at_builtin; refine append_cmds (w0 := w2) rfl (.tmp 17) (.tmp 18) rfl _ (.slice aoB B.length cB) [] B rfl rfl (OwnC.empty (Below.refl _ _)) (SrcC.of_reads (HG.out.2.1.on KW.out) ((Below.refl _ _).alloc (Nat.le_refl _) _)) (by simp; omega) ?_)
    intro va wa hown
    have HA := Lib.hid hown
    clear hown
    go_wp2_with (at_builtin; refine append_cmds (w0 := w2) rfl (.tmp 19) (.tmp 20) rfl va (.slice aoM Mo.length cM) (B) Mo rfl rfl HA.out (SrcC.of_reads (HG.out.2.2.1.on KW.out) HA.out.1) (by omega) ?_)
    intro vc w3 hown
    have hb := hown.1
    replace KB := Lib.hid (KB.out.on hb)
    replace KW := Lib.hid (KW.out.trans (hb.mono KW.out.size))
    clear hb
    clear c0 c1 c2 c3 c4 c5 hlt
    obtain ⟨c0, c1, c2, c3, c4, c5, hlt⟩ := blk6 KB.out
    have HC := Lib.hid hown.reads
    clear hown HA
    go_wp2
    go_ret
    exact ⟨rfl, KW.out⟩
  · have e1 : decide ((40 : Int) < B.length) = false := decide_eq_false (by omega)
    by_cases b2 : 40 < Mo.length
    · have e2 : decide ((40 : Int) < Mo.length) = true := decide_eq_true (by omega)
      go_enter Try.func7, Try.ntmps7
      go_wp2_with fail
      refine (awake_any _).mono ?_
      rintro e w2 ⟨rfl, hb⟩
      have KB := Lib.hid ((Blk.new W 25 #[.int .i64 M, .int .i64 R, .slice a1 F.length k1, .int .i64 cl, .slice a2 n2 k2, .slice a3 n3 k3]).on hb)
      have KW := Lib.hid (((Below.refl W.heap.size W).alloc (Nat.le_refl _) (.cells #[.int .i64 M, .int .i64 R, .slice a1 F.length k1, .int .i64 cl, .slice a2 n2 k2, .slice a3 n3 k3] 25)).trans (hb.mono (by simp)))
      clear hb
      obtain ⟨c0, c1, c2, c3, c4, c5, hlt⟩ := blk6 KB.out
      go_wp2_with (at_builtin; refine append_cmds (w0 := w2) rfl (.tmp 17) (.tmp 18) rfl _ (.slice aoB B.length cB) [] B rfl rfl (OwnC.empty (Below.refl _ _)) (SrcC.of_reads (HG.out.2.1.on KW.out) ((Below.refl _ _).alloc (Nat.le_refl _) _)) (by simp; omega) ?_)
      intro va wa hown
      have HA := Lib.hid hown
      clear hown
      go_wp2_with (at_builtin; refine append_cmds (w0 := w2) rfl (.tmp 19) (.tmp 20) rfl va (.slice aoM Mo.length cM) (B) Mo rfl rfl HA.out (SrcC.of_reads (HG.out.2.2.1.on KW.out) HA.out.1) (by omega) ?_)
      intro vc w3 hown
      have hb := hown.1
      replace KB := Lib.hid (KB.out.on hb)
      replace KW := Lib.hid (KW.out.trans (hb.mono KW.out.size))
      clear hb
      clear c0 c1 c2 c3 c4 c5 hlt
      obtain ⟨c0, c1, c2, c3, c4, c5, hlt⟩ := blk6 KB.out
      have HC := Lib.hid hown.reads
      clear hown HA
      go_wp2
      go_ret
      exact ⟨rfl, KW.out⟩
    · have e2 : decide ((40 : Int) < Mo.length) = false := decide_eq_false (by omega)
      by_cases b3 : 40 < xs.length
      · have e3 : decide ((40 : Int) < xs.length) = true := decide_eq_true (by omega)
        go_enter Try.func7, Try.ntmps7
        go_wp2_with fail
        refine (awake_any _).mono ?_
        rintro e w2 ⟨rfl, hb⟩
        have KB := Lib.hid ((Blk.new W 25 #[.int .i64 M, .int .i64 R, .slice a1 F.length k1, .int .i64 cl, .slice a2 n2 k2, .slice a3 n3 k3]).on hb)
        have KW := Lib.hid (((Below.refl W.heap.size W).alloc (Nat.le_refl _) (.cells #[.int .i64 M, .int .i64 R, .slice a1 F.length k1, .int .i64 cl, .slice a2 n2 k2, .slice a3 n3 k3] 25)).trans (hb.mono (by simp)))
        clear hb
        obtain ⟨c0, c1, c2, c3, c4, c5, hlt⟩ := blk6 KB.out
        go_wp2_with (at_builtin; refine append_cmds (w0 := w2) rfl (.tmp 17) (.tmp 18) rfl _ (.slice aoB B.length cB) [] B rfl rfl (OwnC.empty (Below.refl _ _)) (SrcC.of_reads (HG.out.2.1.on KW.out) ((Below.refl _ _).alloc (Nat.le_refl _) _)) (by simp; omega) ?_)
        intro va wa hown
        have HA := Lib.hid hown
        clear hown
        go_wp2_with (at_builtin; refine append_cmds (w0 := w2) rfl (.tmp 19) (.tmp 20) rfl va (.slice aoM Mo.length cM) (B) Mo rfl rfl HA.out (SrcC.of_reads (HG.out.2.2.1.on KW.out) HA.out.1) (by omega) ?_)
        intro vc w3 hown
        have hb := hown.1
        replace KB := Lib.hid (KB.out.on hb)
        replace KW := Lib.hid (KW.out.trans (hb.mono KW.out.size))
        clear hb
        clear c0 c1 c2 c3 c4 c5 hlt
        obtain ⟨c0, c1, c2, c3, c4, c5, hlt⟩ := blk6 KB.out
        have HC := Lib.hid hown.reads
        clear hown HA
        go_wp2
        go_ret
        exact ⟨rfl, KW.out⟩
      · have e3 : decide ((40 : Int) < xs.length) = false := decide_eq_false (by omega)
        by_cases b4 : 50 < F.length
        · have e4 : decide ((50 : Int) < F.length) = true := decide_eq_true (by omega)
          go_enter Try.func7, Try.ntmps7
          go_wp2_with fail
          refine (awake_any _).mono ?_
          rintro e w2 ⟨rfl, hb⟩
          have KB := Lib.hid ((Blk.new W 25 #[.int .i64 M, .int .i64 R, .slice a1 F.length k1, .int .i64 cl, .slice a2 n2 k2, .slice a3 n3 k3]).on hb)
          have KW := Lib.hid (((Below.refl W.heap.size W).alloc (Nat.le_refl _) (.cells #[.int .i64 M, .int .i64 R, .slice a1 F.length k1, .int .i64 cl, .slice a2 n2 k2, .slice a3 n3 k3] 25)).trans (hb.mono (by simp)))
          clear hb
          obtain ⟨c0, c1, c2, c3, c4, c5, hlt⟩ := blk6 KB.out
          go_wp2_with (at_builtin; refine append_cmds (w0 := w2) rfl (.tmp 17) (.tmp 18) rfl _ (.slice aoB B.length cB) [] B rfl rfl (OwnC.empty (Below.refl _ _)) (SrcC.of_reads (HG.out.2.1.on KW.out) ((Below.refl _ _).alloc (Nat.le_refl _) _)) (by simp; omega) ?_)
          intro va wa hown
          have HA := Lib.hid hown
          clear hown
          go_wp2_with (at_builtin; refine append_cmds (w0 := w2) rfl (.tmp 19) (.tmp 20) rfl va (.slice aoM Mo.length cM) (B) Mo rfl rfl HA.out (SrcC.of_reads (HG.out.2.2.1.on KW.out) HA.out.1) (by omega) ?_)
          intro vc w3 hown
          have hb := hown.1
          replace KB := Lib.hid (KB.out.on hb)
          replace KW := Lib.hid (KW.out.trans (hb.mono KW.out.size))
          clear hb
          clear c0 c1 c2 c3 c4 c5 hlt
          obtain ⟨c0, c1, c2, c3, c4, c5, hlt⟩ := blk6 KB.out
          have HC := Lib.hid hown.reads
          clear hown HA
          go_wp2
          go_ret
          exact ⟨rfl, KW.out⟩
        · have e4 : decide ((50 : Int) < F.length) = false := decide_eq_false (by omega)
          by_cases b5 : usableB M R F = true
          · obtain ⟨_, ⟨hR1, hR2⟩, hF0, _, _⟩ := usable_parts b5
            have HU := Lib.hid b5
            have HPL := Lib.hid (@plain M R F xs B Mo b5)
            have HFR := Lib.hid (head_reads HF.out hF0)
            have hm12 := @must_le M R F B (B ++ Mo) hR2
            have hy12 := @may_le M R F B (B ++ Mo) hR2
            have hF1' : 1 ≤ F.length := List.length_pos_iff.2 hF0
            have hk1 : 1 ≤ k1 := by omega
            have s1 : decide (1 ≤ k1) = true := decide_eq_true hk1
            have hBM : (B ++ Mo).length ≤ 80 := by simp; omega
            clear b5 hR1 hR2 hF0
            go_enter Try.func7, Try.ntmps7
            go_wp2_with fail
            refine (awake_any _).mono ?_
            rintro e w2 ⟨rfl, hb⟩
            have KB := Lib.hid ((Blk.new W 25 #[.int .i64 M, .int .i64 R, .slice a1 F.length k1, .int .i64 cl, .slice a2 n2 k2, .slice a3 n3 k3]).on hb)
            have KW := Lib.hid (((Below.refl W.heap.size W).alloc (Nat.le_refl _) (.cells #[.int .i64 M, .int .i64 R, .slice a1 F.length k1, .int .i64 cl, .slice a2 n2 k2, .slice a3 n3 k3] 25)).trans (hb.mono (by simp)))
            clear hb
            obtain ⟨c0, c1, c2, c3, c4, c5, hlt⟩ := blk6 KB.out
            go_wp2_with (at_builtin; refine append_cmds (w0 := w2) rfl (.tmp 17) (.tmp 18) rfl _ (.slice aoB B.length cB) [] B rfl rfl (OwnC.empty (Below.refl _ _)) (SrcC.of_reads (HG.out.2.1.on KW.out) ((Below.refl _ _).alloc (Nat.le_refl _) _)) (by simp; omega) ?_)
            intro va wa hown
            have HA := Lib.hid hown
            clear hown
            go_wp2_with (at_builtin; refine append_cmds (w0 := w2) rfl (.tmp 19) (.tmp 20) rfl va (.slice aoM Mo.length cM) (B) Mo rfl rfl HA.out (SrcC.of_reads (HG.out.2.2.1.on KW.out) HA.out.1) (by omega) ?_)
            intro vc w3 hown
            have hb := hown.1
            replace KB := Lib.hid (KB.out.on hb)
            replace KW := Lib.hid (KW.out.trans (hb.mono KW.out.size))
            clear hb
            clear c0 c1 c2 c3 c4 c5 hlt
            obtain ⟨c0, c1, c2, c3, c4, c5, hlt⟩ := blk6 KB.out
            have HC := Lib.hid hown.reads
            clear hown HA
            go_wp2_with fail
            refine (rusable_any _ M R F _ (HG.out.1.on KW.out)).mono ?_
            rintro e w4 ⟨rfl, hb⟩
            replace KB := Lib.hid (KB.out.on hb)
            replace KW := Lib.hid (KW.out.trans (hb.mono KW.out.size))
            replace HC := Lib.hid (HC.out.on hb)
            clear hb
            clear c0 c1 c2 c3 c4 c5 hlt
            obtain ⟨c0, c1, c2, c3, c4, c5, hlt⟩ := blk6 KB.out
            rw [HU.out]
            go_wp2
            refine region_left [.is (.agg #[.int .i64 M, .int .i64 R, .slice a1 F.length k1, .int .i64 cl, .slice a2 n2 k2, .slice a3 n3 k3]), .is (.slice aoB B.length cB), .is vc, leftReads vi (mustL M R F B (B ++ Mo)), .is (.agg #[.int .i64 M, .int .i64 R, .slice a1 F.length k1, .int .i64 cl, .slice a2 n2 k2, .slice a3 n3 k3]), .is (.slice aoB B.length cB), .is vc, leftReads vi (mayL M R F B (B ++ Mo)), leftReads vi (mustL M R F B (B ++ Mo)), leftReads vi (mayL M R F B (B ++ Mo))] (by kernel_rfl) rfl (by kernel_rfl) (by kernel_rfl) (.cons ?q0 (.cons ?q1 (.cons ?q2 (.cons ?q3 (.cons ?q4 (.cons ?q5 (.cons ?q6 (.cons ?q7 (.cons ?q8 (.cons ?q9 .nil)))))))))) ?qfin
            case q0 =>
              intro wq hbw st  K hK
              have KQ := KW.out.trans (hbw.mono KW.out.size)
              simp only [Act.put, List.setIfInBounds_toArray, List.set_cons_zero, List.set_cons_succ] at hK ⊢
              unfold opStep
              rw [if_pos (by rfl)]
              obtain ⟨d0, d1, d2, d3, d4, d5, dlt⟩ := blk6 (KB.out.on hbw)
              go_simp
              exact hK.out _ _ (Below.refl _ _) rfl _ rfl
            case q1 =>
              intro wq hbw st  K hK
              have KQ := KW.out.trans (hbw.mono KW.out.size)
              simp only [Act.put, List.setIfInBounds_toArray, List.set_cons_zero, List.set_cons_succ] at hK ⊢
              unfold opStep
              rw [if_pos (by rfl)]
              go_simp
              exact hK.out _ _ (Below.refl _ _) rfl _ rfl
            case q2 =>
              intro wq hbw st  K hK
              have KQ := KW.out.trans (hbw.mono KW.out.size)
              simp only [Act.put, List.setIfInBounds_toArray, List.set_cons_zero, List.set_cons_succ] at hK ⊢
              unfold opStep
              rw [if_pos (by rfl)]
              go_simp
              exact hK.out _ _ (Below.refl _ _) rfl _ rfl
            case q3 =>
              intro wq hbw st  K hK
              have KQ := KW.out.trans (hbw.mono KW.out.size)
              simp only [Act.put, List.setIfInBounds_toArray, List.set_cons_zero, List.set_cons_succ] at hK ⊢
              unfold opStep
              rw [if_pos (by rfl)]
              go_simp
              refine (must_any _ _ _ M R F B (B ++ Mo) _ (HG.out.1.on KQ) (HG.out.2.1.on KQ) (HC.out.on hbw)).mono ?_
              rintro e wz ⟨v, rfl, hr, hbz⟩
              go_simp
              exact hK.out _ _ hbz hr _ rfl
            case q4 =>
              intro wq hbw st  K hK
              have KQ := KW.out.trans (hbw.mono KW.out.size)
              simp only [Act.put, List.setIfInBounds_toArray, List.set_cons_zero, List.set_cons_succ] at hK ⊢
              unfold opStep
              rw [if_pos (by rfl)]
              obtain ⟨d0, d1, d2, d3, d4, d5, dlt⟩ := blk6 (KB.out.on hbw)
              go_simp
              exact hK.out _ _ (Below.refl _ _) rfl _ rfl
            case q5 =>
              intro wq hbw st  K hK
              have KQ := KW.out.trans (hbw.mono KW.out.size)
              simp only [Act.put, List.setIfInBounds_toArray, List.set_cons_zero, List.set_cons_succ] at hK ⊢
              unfold opStep
              rw [if_pos (by rfl)]
              go_simp
              exact hK.out _ _ (Below.refl _ _) rfl _ rfl
            case q6 =>
              intro wq hbw st  K hK
              have KQ := KW.out.trans (hbw.mono KW.out.size)
              simp only [Act.put, List.setIfInBounds_toArray, List.set_cons_zero, List.set_cons_succ] at hK ⊢
              unfold opStep
              rw [if_pos (by rfl)]
              go_simp
              exact hK.out _ _ (Below.refl _ _) rfl _ rfl
            case q7 =>
              intro wq hbw st x3 h3 K hK
              have KQ := KW.out.trans (hbw.mono KW.out.size)
              simp only [Act.put, List.setIfInBounds_toArray, List.set_cons_zero, List.set_cons_succ] at hK ⊢
              unfold opStep
              rw [if_pos (by rfl)]
              go_simp
              refine (may_any _ _ _ M R F B (B ++ Mo) _ (HG.out.1.on KQ) (HG.out.2.1.on KQ) (HC.out.on hbw)).mono ?_
              rintro e wz ⟨v, rfl, hr, hbz⟩
              go_simp
              exact hK.out _ _ hbz hr _ rfl
            case q8 =>
              intro wq hbw st x3 h3 x7 h7 K hK
              have KQ := KW.out.trans (hbw.mono KW.out.size)
              simp only [Act.put, List.setIfInBounds_toArray, List.set_cons_zero, List.set_cons_succ] at hK ⊢
              unfold opStep
              rw [if_pos (by rfl)]
              go_simp
              exact hK.out _ _ (Below.refl _ _) h3 _ rfl
            case q9 =>
              intro wq hbw st x3 h3 x7 h7 x8 h8 K hK
              have KQ := KW.out.trans (hbw.mono KW.out.size)
              simp only [Act.put, List.setIfInBounds_toArray, List.set_cons_zero, List.set_cons_succ] at hK ⊢
              unfold opStep
              rw [if_pos (by rfl)]
              go_simp
              exact hK.out _ _ (Below.refl _ _) h7 _ rfl
            case qfin =>
              intro wq hbw
              intro x3 h3 x7 h7 x8 h8 x9 h9
              try simp only [FinAll]
              simp only [Act.put, List.setIfInBounds_toArray, List.set_cons_zero, List.set_cons_succ]
              have H8 : Hid (Reads vi wq x8 (mustL M R F B (B ++ Mo))) := Lib.hid h8
              have H9 : Hid (Reads vi wq x9 (mayL M R F B (B ++ Mo))) := Lib.hid h9
              clear h8 h9 h3 h7
              replace KB := Lib.hid (KB.out.on hbw)
              replace HC := Lib.hid (HC.out.on hbw)
              replace KW := Lib.hid (KW.out.trans (hbw.mono KW.out.size))
              clear hbw
              generalize mustL M R F B (B ++ Mo) = mu at *
              generalize mayL M R F B (B ++ Mo) = ma at *
              clear c0 c1 c2 c3 c4 c5 hlt
              obtain ⟨am, cm, rfl, _, hmm, _, _⟩ := H8.out
              obtain ⟨ay, cy, rfl, _, hyy, _, _⟩ := H9.out
              unfold maxLen at hmm hyy
              obtain ⟨c0, c1, c2, c3, c4, c5, hlt⟩ := blk6 KB.out
              go_wp2_with fail
              refine (part_any (.slice am mu.length cm) (.slice aox xs.length cx) mu xs false _ H8.out (HG.out.2.2.2.keep KW.out) (by omega)).mono ?_
              rintro e w41 ⟨vu1, rfl, hr, hb⟩
              replace KB := Lib.hid (KB.out.on hb)
              replace KW := Lib.hid (KW.out.trans (hb.mono KW.out.size))
              replace HC := Lib.hid (HC.out.on hb)
              replace H8 := Lib.hid (H8.out.keep hb)
              replace H9 := Lib.hid (H9.out.keep hb)
              clear hb
              clear c0 c1 c2 c3 c4 c5 hlt
              obtain ⟨c0, c1, c2, c3, c4, c5, hlt⟩ := blk6 KB.out
              have Pu1 := Lib.hid hr
              clear hr
              have hlu1 := part_le mu xs false
              obtain ⟨au1, cu1, rfl, -, qu1, -, -⟩ := Pu1.out
              unfold maxLen at qu1
              go_wp2_with fail
              refine (part_any (.slice ay ma.length cy) (.slice aox xs.length cx) ma xs false _ H9.out (HG.out.2.2.2.keep KW.out) (by omega)).mono ?_
              rintro e w42 ⟨vu2, rfl, hr, hb⟩
              replace KB := Lib.hid (KB.out.on hb)
              replace KW := Lib.hid (KW.out.trans (hb.mono KW.out.size))
              replace HC := Lib.hid (HC.out.on hb)
              replace H8 := Lib.hid (H8.out.keep hb)
              replace H9 := Lib.hid (H9.out.keep hb)
              replace Pu1 := Lib.hid (Pu1.out.keep hb)
              clear hb
              clear c0 c1 c2 c3 c4 c5 hlt
              obtain ⟨c0, c1, c2, c3, c4, c5, hlt⟩ := blk6 KB.out
              have Pu2 := Lib.hid hr
              clear hr
              have hlu2 := part_le ma xs false
              obtain ⟨au2, cu2, rfl, -, qu2, -, -⟩ := Pu2.out
              unfold maxLen at qu2
              go_wp2_with fail
              refine (part_any (.slice am mu.length cm) (.slice aox xs.length cx) mu xs true _ H8.out (HG.out.2.2.2.keep KW.out) (by omega)).mono ?_
              rintro e w43 ⟨vu3, rfl, hr, hb⟩
              replace KB := Lib.hid (KB.out.on hb)
              replace KW := Lib.hid (KW.out.trans (hb.mono KW.out.size))
              replace HC := Lib.hid (HC.out.on hb)
              replace H8 := Lib.hid (H8.out.keep hb)
              replace H9 := Lib.hid (H9.out.keep hb)
              replace Pu1 := Lib.hid (Pu1.out.keep hb)
              replace Pu2 := Lib.hid (Pu2.out.keep hb)
              clear hb
              clear c0 c1 c2 c3 c4 c5 hlt
              obtain ⟨c0, c1, c2, c3, c4, c5, hlt⟩ := blk6 KB.out
              have Pu3 := Lib.hid hr
              clear hr
              have hlu3 := part_le mu xs true
              obtain ⟨au3, cu3, rfl, -, qu3, -, -⟩ := Pu3.out
              unfold maxLen at qu3
              clear Pu1 Pu2 Pu3
              generalize (partL mu xs false).length = p1 at *
              generalize (partL ma xs false).length = p2 at *
              generalize (partL mu xs true).length = p3 at *
              by_cases hM : M = 2
              · have m1 : (M == 2) = true := beq_t hM
                have hgt : gtM M (p1 + p2) p3 = decide (2 * (p1 + p2) < p3) := decide_eq_decide.2 (by rw [if_pos hM])
                have HGT := Lib.hid hgt
                clear hgt hM
                by_cases hmu : mu = []
                · have m2 : ((mu.length : Int) == 0) = true := by subst hmu; rfl
                  have m2n : (mu.length == 0) = true := by subst hmu; rfl
                  have HE := Lib.hid hmu
                  clear hmu
                  by_cases hz : p1 + p2 = 0
                  · have m3 : (((p1 : Int) + (p2 : Int)) == 0) = true := beq_iff_eq.2 (by omega)
                    have HZ := Lib.hid hz
                    clear hz
                    by_cases hf : F.headD 0 ∈ xs
                    · have HFX := Lib.hid hf
                      clear hf
                      go_wp2_with fail
                      refine (part_any _ (.slice aox xs.length cx) [F.headD 0] xs true _ (HFR.out.keep KW.out) (HG.out.2.2.2.keep KW.out) (by simp)).mono ?_
                      rintro e w44 ⟨vo, rfl, hr, hb⟩
                      replace KB := Lib.hid (KB.out.on hb)
                      replace KW := Lib.hid (KW.out.trans (hb.mono KW.out.size))
                      replace HC := Lib.hid (HC.out.on hb)
                      replace H8 := Lib.hid (H8.out.keep hb)
                      replace H9 := Lib.hid (H9.out.keep hb)
                      clear hb
                      clear c0 c1 c2 c3 c4 c5 hlt
                      obtain ⟨c0, c1, c2, c3, c4, c5, hlt⟩ := blk6 KB.out
                      have PO := Lib.hid hr
                      clear hr
                      obtain ⟨ao, co, rfl, -, qo, -, -⟩ := PO.out
                      clear PO
                      unfold maxLen at qo
                      rw [show (partL [F.headD 0] xs true).length = 1 by rw [part_one, if_pos HFX.out]] at *
                      go_wp2_with fail
                      refine (quorate_any _ _ _ _ M R F B (B ++ Mo) xs _ (HG.out.1.on KW.out) (HG.out.2.1.on KW.out) HC.out (HG.out.2.2.2.keep KW.out)).mono ?_
                      rintro e w45 ⟨rfl, hb⟩
                      replace KB := Lib.hid (KB.out.on hb)
                      replace KW := Lib.hid (KW.out.trans (hb.mono KW.out.size))
                      replace HC := Lib.hid (HC.out.on hb)
                      replace H8 := Lib.hid (H8.out.keep hb)
                      replace H9 := Lib.hid (H9.out.keep hb)
                      clear hb
                      clear c0 c1 c2 c3 c4 c5 hlt
                      obtain ⟨c0, c1, c2, c3, c4, c5, hlt⟩ := blk6 KB.out
                      rw [show quorateB M R F B (B ++ Mo) xs = true by rw [HPL.out]; rw [if_pos HE.out]; exact decide_eq_true ⟨HZ.out, HFX.out⟩]
                      go_wp2
                      go_ret
                      exact ⟨rfl, KW.out⟩
                    · have HFX := Lib.hid hf
                      clear hf
                      go_wp2_with fail
                      refine (part_any _ (.slice aox xs.length cx) [F.headD 0] xs true _ (HFR.out.keep KW.out) (HG.out.2.2.2.keep KW.out) (by simp)).mono ?_
                      rintro e w44 ⟨vo, rfl, hr, hb⟩
                      replace KB := Lib.hid (KB.out.on hb)
                      replace KW := Lib.hid (KW.out.trans (hb.mono KW.out.size))
                      replace HC := Lib.hid (HC.out.on hb)
                      replace H8 := Lib.hid (H8.out.keep hb)
                      replace H9 := Lib.hid (H9.out.keep hb)
                      clear hb
                      clear c0 c1 c2 c3 c4 c5 hlt
                      obtain ⟨c0, c1, c2, c3, c4, c5, hlt⟩ := blk6 KB.out
                      have PO := Lib.hid hr
                      clear hr
                      obtain ⟨ao, co, rfl, -, qo, -, -⟩ := PO.out
                      clear PO
                      unfold maxLen at qo
                      rw [show (partL [F.headD 0] xs true).length = 0 by rw [part_one, if_neg HFX.out]] at *
                      go_wp2_with fail
                      refine (quorate_any _ _ _ _ M R F B (B ++ Mo) xs _ (HG.out.1.on KW.out) (HG.out.2.1.on KW.out) HC.out (HG.out.2.2.2.keep KW.out)).mono ?_
                      rintro e w45 ⟨rfl, hb⟩
                      replace KB := Lib.hid (KB.out.on hb)
                      replace KW := Lib.hid (KW.out.trans (hb.mono KW.out.size))
                      replace HC := Lib.hid (HC.out.on hb)
                      replace H8 := Lib.hid (H8.out.keep hb)
                      replace H9 := Lib.hid (H9.out.keep hb)
                      clear hb
                      clear c0 c1 c2 c3 c4 c5 hlt
                      obtain ⟨c0, c1, c2, c3, c4, c5, hlt⟩ := blk6 KB.out
                      rw [show quorateB M R F B (B ++ Mo) xs = false by rw [HPL.out]; rw [if_pos HE.out]; exact decide_eq_false fun h => HFX.out h.2]
                      go_wp2
                      go_ret
                      exact ⟨rfl, KW.out⟩
                  · have m3 : (((p1 : Int) + (p2 : Int)) == 0) = false := beq_eq_false_iff_ne.2 (by omega)
                    have HZ := Lib.hid hz
                    clear hz
                    go_wp2_with fail
                    refine (quorate_any _ _ _ _ M R F B (B ++ Mo) xs _ (HG.out.1.on KW.out) (HG.out.2.1.on KW.out) HC.out (HG.out.2.2.2.keep KW.out)).mono ?_
                    rintro e w44 ⟨rfl, hb⟩
                    replace KB := Lib.hid (KB.out.on hb)
                    replace KW := Lib.hid (KW.out.trans (hb.mono KW.out.size))
                    replace HC := Lib.hid (HC.out.on hb)
                    replace H8 := Lib.hid (H8.out.keep hb)
                    replace H9 := Lib.hid (H9.out.keep hb)
                    clear hb
                    clear c0 c1 c2 c3 c4 c5 hlt
                    obtain ⟨c0, c1, c2, c3, c4, c5, hlt⟩ := blk6 KB.out
                    rw [show quorateB M R F B (B ++ Mo) xs = false by rw [HPL.out]; rw [if_pos HE.out]; exact decide_eq_false fun h => HZ.out h.1]
                    go_wp2
                    go_ret
                    exact ⟨rfl, KW.out⟩
                · have m2 : ((mu.length : Int) == 0) = false := beq_eq_false_iff_ne.2 (by have := List.length_pos_iff.2 hmu; omega)
                  have m2n : (mu.length == 0) = false := beq_eq_false_iff_ne.2 (by have := List.length_pos_iff.2 hmu; omega)
                  have HE := Lib.hid hmu
                  clear hmu
                  by_cases hq : 2 * (p1 + p2) < p3
                  · have z1 : decide (2 * ((p1 : Int) + (p2 : Int)) < (p3 : Int)) = true := decide_eq_true (by omega)
                    have z2 : decide (2 * (p1 + p2) < p3) = true := decide_eq_true hq
                    have HQ := Lib.hid (HGT.out.trans z2)
                    clear hq
                    go_wp2_with fail
                    refine (quorate_any _ _ _ _ M R F B (B ++ Mo) xs _ (HG.out.1.on KW.out) (HG.out.2.1.on KW.out) HC.out (HG.out.2.2.2.keep KW.out)).mono ?_
                    rintro e w44 ⟨rfl, hb⟩
                    replace KB := Lib.hid (KB.out.on hb)
                    replace KW := Lib.hid (KW.out.trans (hb.mono KW.out.size))
                    replace HC := Lib.hid (HC.out.on hb)
                    replace H8 := Lib.hid (H8.out.keep hb)
                    replace H9 := Lib.hid (H9.out.keep hb)
                    clear hb
                    clear c0 c1 c2 c3 c4 c5 hlt
                    obtain ⟨c0, c1, c2, c3, c4, c5, hlt⟩ := blk6 KB.out
                    rw [show quorateB M R F B (B ++ Mo) xs = true by rw [HPL.out]; rw [if_neg HE.out]; exact HQ.out]
                    go_wp2
                    go_ret
                    exact ⟨rfl, KW.out⟩
                  · have z1 : decide (2 * ((p1 : Int) + (p2 : Int)) < (p3 : Int)) = false := decide_eq_false (by omega)
                    have z2 : decide (2 * (p1 + p2) < p3) = false := decide_eq_false hq
                    have HQ := Lib.hid (HGT.out.trans z2)
                    clear hq
                    go_wp2_with fail
                    refine (quorate_any _ _ _ _ M R F B (B ++ Mo) xs _ (HG.out.1.on KW.out) (HG.out.2.1.on KW.out) HC.out (HG.out.2.2.2.keep KW.out)).mono ?_
                    rintro e w44 ⟨rfl, hb⟩
                    replace KB := Lib.hid (KB.out.on hb)
                    replace KW := Lib.hid (KW.out.trans (hb.mono KW.out.size))
                    replace HC := Lib.hid (HC.out.on hb)
                    replace H8 := Lib.hid (H8.out.keep hb)
                    replace H9 := Lib.hid (H9.out.keep hb)
                    clear hb
                    clear c0 c1 c2 c3 c4 c5 hlt
                    obtain ⟨c0, c1, c2, c3, c4, c5, hlt⟩ := blk6 KB.out
                    rw [show quorateB M R F B (B ++ Mo) xs = false by rw [HPL.out]; rw [if_neg HE.out]; exact HQ.out]
                    go_wp2
                    go_ret
                    exact ⟨rfl, KW.out⟩
              · have m1 : (M == 2) = false := beq_f hM
                have hgt : gtM M (p1 + p2) p3 = decide ((p1 + p2) < p3) := decide_eq_decide.2 (by rw [if_neg hM])
                have HGT := Lib.hid hgt
                clear hgt hM
                by_cases hmu : mu = []
                · have m2 : ((mu.length : Int) == 0) = true := by subst hmu; rfl
                  have m2n : (mu.length == 0) = true := by subst hmu; rfl
                  have HE := Lib.hid hmu
                  clear hmu
                  by_cases hz : p1 + p2 = 0
                  · have m3 : (((p1 : Int) + (p2 : Int)) == 0) = true := beq_iff_eq.2 (by omega)
                    have HZ := Lib.hid hz
                    clear hz
                    by_cases hf : F.headD 0 ∈ xs
                    · have HFX := Lib.hid hf
                      clear hf
                      go_wp2_with fail
                      refine (part_any _ (.slice aox xs.length cx) [F.headD 0] xs true _ (HFR.out.keep KW.out) (HG.out.2.2.2.keep KW.out) (by simp)).mono ?_
                      rintro e w44 ⟨vo, rfl, hr, hb⟩
                      replace KB := Lib.hid (KB.out.on hb)
                      replace KW := Lib.hid (KW.out.trans (hb.mono KW.out.size))
                      replace HC := Lib.hid (HC.out.on hb)
                      replace H8 := Lib.hid (H8.out.keep hb)
                      replace H9 := Lib.hid (H9.out.keep hb)
                      clear hb
                      clear c0 c1 c2 c3 c4 c5 hlt
                      obtain ⟨c0, c1, c2, c3, c4, c5, hlt⟩ := blk6 KB.out
                      have PO := Lib.hid hr
                      clear hr
                      obtain ⟨ao, co, rfl, -, qo, -, -⟩ := PO.out
                      clear PO
                      unfold maxLen at qo
                      rw [show (partL [F.headD 0] xs true).length = 1 by rw [part_one, if_pos HFX.out]] at *
                      go_wp2_with fail
                      refine (quorate_any _ _ _ _ M R F B (B ++ Mo) xs _ (HG.out.1.on KW.out) (HG.out.2.1.on KW.out) HC.out (HG.out.2.2.2.keep KW.out)).mono ?_
                      rintro e w45 ⟨rfl, hb⟩
                      replace KB := Lib.hid (KB.out.on hb)
                      replace KW := Lib.hid (KW.out.trans (hb.mono KW.out.size))
                      replace HC := Lib.hid (HC.out.on hb)
                      replace H8 := Lib.hid (H8.out.keep hb)
                      replace H9 := Lib.hid (H9.out.keep hb)
                      clear hb
                      clear c0 c1 c2 c3 c4 c5 hlt
                      obtain ⟨c0, c1, c2, c3, c4, c5, hlt⟩ := blk6 KB.out
                      rw [show quorateB M R F B (B ++ Mo) xs = true by rw [HPL.out]; rw [if_pos HE.out]; exact decide_eq_true ⟨HZ.out, HFX.out⟩]
                      go_wp2
                      go_ret
                      exact ⟨rfl, KW.out⟩
                    · have HFX := Lib.hid hf
                      clear hf
                      go_wp2_with fail
                      refine (part_any _ (.slice aox xs.length cx) [F.headD 0] xs true _ (HFR.out.keep KW.out) (HG.out.2.2.2.keep KW.out) (by simp)).mono ?_
                      rintro e w44 ⟨vo, rfl, hr, hb⟩
                      replace KB := Lib.hid (KB.out.on hb)
                      replace KW := Lib.hid (KW.out.trans (hb.mono KW.out.size))
                      replace HC := Lib.hid (HC.out.on hb)
                      replace H8 := Lib.hid (H8.out.keep hb)
                      replace H9 := Lib.hid (H9.out.keep hb)
                      clear hb
                      clear c0 c1 c2 c3 c4 c5 hlt
                      obtain ⟨c0, c1, c2, c3, c4, c5, hlt⟩ := blk6 KB.out
                      have PO := Lib.hid hr
                      clear hr
                      obtain ⟨ao, co, rfl, -, qo, -, -⟩ := PO.out
                      clear PO
                      unfold maxLen at qo
                      rw [show (partL [F.headD 0] xs true).length = 0 by rw [part_one, if_neg HFX.out]] at *
                      go_wp2_with fail
                      refine (quorate_any _ _ _ _ M R F B (B ++ Mo) xs _ (HG.out.1.on KW.out) (HG.out.2.1.on KW.out) HC.out (HG.out.2.2.2.keep KW.out)).mono ?_
                      rintro e w45 ⟨rfl, hb⟩
                      replace KB := Lib.hid (KB.out.on hb)
                      replace KW := Lib.hid (KW.out.trans (hb.mono KW.out.size))
                      replace HC := Lib.hid (HC.out.on hb)
                      replace H8 := Lib.hid (H8.out.keep hb)
                      replace H9 := Lib.hid (H9.out.keep hb)
                      clear hb
                      clear c0 c1 c2 c3 c4 c5 hlt
                      obtain ⟨c0, c1, c2, c3, c4, c5, hlt⟩ := blk6 KB.out
                      rw [show quorateB M R F B (B ++ Mo) xs = false by rw [HPL.out]; rw [if_pos HE.out]; exact decide_eq_false fun h => HFX.out h.2]
                      go_wp2
                      go_ret
                      exact ⟨rfl, KW.out⟩
                  · have m3 : (((p1 : Int) + (p2 : Int)) == 0) = false := beq_eq_false_iff_ne.2 (by omega)
                    have HZ := Lib.hid hz
                    clear hz
                    go_wp2_with fail
                    refine (quorate_any _ _ _ _ M R F B (B ++ Mo) xs _ (HG.out.1.on KW.out) (HG.out.2.1.on KW.out) HC.out (HG.out.2.2.2.keep KW.out)).mono ?_
                    rintro e w44 ⟨rfl, hb⟩
                    replace KB := Lib.hid (KB.out.on hb)
                    replace KW := Lib.hid (KW.out.trans (hb.mono KW.out.size))
                    replace HC := Lib.hid (HC.out.on hb)
                    replace H8 := Lib.hid (H8.out.keep hb)
                    replace H9 := Lib.hid (H9.out.keep hb)
                    clear hb
                    clear c0 c1 c2 c3 c4 c5 hlt
                    obtain ⟨c0, c1, c2, c3, c4, c5, hlt⟩ := blk6 KB.out
                    rw [show quorateB M R F B (B ++ Mo) xs = false by rw [HPL.out]; rw [if_pos HE.out]; exact decide_eq_false fun h => HZ.out h.1]
                    go_wp2
                    go_ret
                    exact ⟨rfl, KW.out⟩
                · have m2 : ((mu.length : Int) == 0) = false := beq_eq_false_iff_ne.2 (by have := List.length_pos_iff.2 hmu; omega)
                  have m2n : (mu.length == 0) = false := beq_eq_false_iff_ne.2 (by have := List.length_pos_iff.2 hmu; omega)
                  have HE := Lib.hid hmu
                  clear hmu
                  by_cases hq : (p1 + p2) < p3
                  · have z1 : decide ((p1 : Int) + (p2 : Int) < (p3 : Int)) = true := decide_eq_true (by omega)
                    have z2 : decide ((p1 + p2) < p3) = true := decide_eq_true hq
                    have HQ := Lib.hid (HGT.out.trans z2)
                    clear hq
                    go_wp2_with fail
                    refine (quorate_any _ _ _ _ M R F B (B ++ Mo) xs _ (HG.out.1.on KW.out) (HG.out.2.1.on KW.out) HC.out (HG.out.2.2.2.keep KW.out)).mono ?_
                    rintro e w44 ⟨rfl, hb⟩
                    replace KB := Lib.hid (KB.out.on hb)
                    replace KW := Lib.hid (KW.out.trans (hb.mono KW.out.size))
                    replace HC := Lib.hid (HC.out.on hb)
                    replace H8 := Lib.hid (H8.out.keep hb)
                    replace H9 := Lib.hid (H9.out.keep hb)
                    clear hb
                    clear c0 c1 c2 c3 c4 c5 hlt
                    obtain ⟨c0, c1, c2, c3, c4, c5, hlt⟩ := blk6 KB.out
                    rw [show quorateB M R F B (B ++ Mo) xs = true by rw [HPL.out]; rw [if_neg HE.out]; exact HQ.out]
                    go_wp2
                    go_ret
                    exact ⟨rfl, KW.out⟩
                  · have z1 : decide ((p1 : Int) + (p2 : Int) < (p3 : Int)) = false := decide_eq_false (by omega)
                    have z2 : decide ((p1 + p2) < p3) = false := decide_eq_false hq
                    have HQ := Lib.hid (HGT.out.trans z2)
                    clear hq
                    go_wp2_with fail
                    refine (quorate_any _ _ _ _ M R F B (B ++ Mo) xs _ (HG.out.1.on KW.out) (HG.out.2.1.on KW.out) HC.out (HG.out.2.2.2.keep KW.out)).mono ?_
                    rintro e w44 ⟨rfl, hb⟩
                    replace KB := Lib.hid (KB.out.on hb)
                    replace KW := Lib.hid (KW.out.trans (hb.mono KW.out.size))
                    replace HC := Lib.hid (HC.out.on hb)
                    replace H8 := Lib.hid (H8.out.keep hb)
                    replace H9 := Lib.hid (H9.out.keep hb)
                    clear hb
                    clear c0 c1 c2 c3 c4 c5 hlt
                    obtain ⟨c0, c1, c2, c3, c4, c5, hlt⟩ := blk6 KB.out
                    rw [show quorateB M R F B (B ++ Mo) xs = false by rw [HPL.out]; rw [if_neg HE.out]; exact HQ.out]
                    go_wp2
                    go_ret
                    exact ⟨rfl, KW.out⟩
          · have HU := Lib.hid (Bool.eq_false_iff.2 b5)
            clear b5
            go_enter Try.func7, Try.ntmps7
            go_wp2_with fail
            refine (awake_any _).mono ?_
            rintro e w2 ⟨rfl, hb⟩
            have KB := Lib.hid ((Blk.new W 25 #[.int .i64 M, .int .i64 R, .slice a1 F.length k1, .int .i64 cl, .slice a2 n2 k2, .slice a3 n3 k3]).on hb)
            have KW := Lib.hid (((Below.refl W.heap.size W).alloc (Nat.le_refl _) (.cells #[.int .i64 M, .int .i64 R, .slice a1 F.length k1, .int .i64 cl, .slice a2 n2 k2, .slice a3 n3 k3] 25)).trans (hb.mono (by simp)))
            clear hb
            obtain ⟨c0, c1, c2, c3, c4, c5, hlt⟩ := blk6 KB.out
            go_wp2_with (at_builtin; refine append_cmds (w0 := w2) rfl (.tmp 17) (.tmp 18) rfl _ (.slice aoB B.length cB) [] B rfl rfl (OwnC.empty (Below.refl _ _)) (SrcC.of_reads (HG.out.2.1.on KW.out) ((Below.refl _ _).alloc (Nat.le_refl _) _)) (by simp; omega) ?_)
            intro va wa hown
            have HA := Lib.hid hown
            clear hown
            go_wp2_with (at_builtin; refine append_cmds (w0 := w2) rfl (.tmp 19) (.tmp 20) rfl va (.slice aoM Mo.length cM) (B) Mo rfl rfl HA.out (SrcC.of_reads (HG.out.2.2.1.on KW.out) HA.out.1) (by omega) ?_)
            intro vc w3 hown
            have hb := hown.1
            replace KB := Lib.hid (KB.out.on hb)
            replace KW := Lib.hid (KW.out.trans (hb.mono KW.out.size))
            clear hb
            clear c0 c1 c2 c3 c4 c5 hlt
            obtain ⟨c0, c1, c2, c3, c4, c5, hlt⟩ := blk6 KB.out
            have HC := Lib.hid hown.reads
            clear hown HA
            go_wp2_with fail
            refine (rusable_any _ M R F _ (HG.out.1.on KW.out)).mono ?_
            rintro e w4 ⟨rfl, hb⟩
            replace KB := Lib.hid (KB.out.on hb)
            replace KW := Lib.hid (KW.out.trans (hb.mono KW.out.size))
            replace HC := Lib.hid (HC.out.on hb)
            clear hb
            clear c0 c1 c2 c3 c4 c5 hlt
            obtain ⟨c0, c1, c2, c3, c4, c5, hlt⟩ := blk6 KB.out
            rw [HU.out]
            go_wp2
            go_ret
            exact ⟨rfl, KW.out⟩

set_option maxRecDepth 100000 in
theorem contract (H : Type) (enc : TypeId × Value → H) (W : World) (base : Nat) (args : Array Value) (ds gs : List (DataW H)) (before : List MemPlace)
    (hval0 : ∀ (j : Nat) t v, Try.f7.params[j]? = some t → args[j]? = some v → Value.okWide Try.prog W .any base t v)
    (hW : DataW.Whole enc Try.prog Try.f7.params.toList Rows.configCountsSpec.vars false W args.toList ds gs before) (hk : Rows.uptoSmall H (ds ++ gs) = true) :
    Calls Try.prog 7 args W fun e W' => ∃ v, e = .returned v ∧ Rows.configCountsSpec.post enc Try.prog Try.f7 false true false false W args v W' := by
  have hval : ∀ (j : Nat) t v, Try.f7.params[j]? = some t → args[j]? = some v → Value.okWide Try.prog W .any base t v := hval0
  have hW' := hW
  obtain ⟨p, q, hA0, hV, rfl, hfz, hnd⟩ := hW
  have hA : DataW.TrodAll enc Try.prog W 0 (fun _ => true) true Try.f7.params.toList args.toList ds p := hA0
  rw [Try.params7] at hA hval
  obtain ⟨v0, vs0, d0, ds0, p0, q0, hargs, rfl, rfl, t0, r0⟩ := trodAll_cons hA
  obtain ⟨v1, vs1, d1, ds1, p1, q1, rfl, rfl, rfl, t1, r1⟩ := trodAll_cons r0
  obtain ⟨v2, vs2, d2, ds2, p2, q2, rfl, rfl, rfl, t2, r2⟩ := trodAll_cons r1
  obtain ⟨v3, vs3, d3, ds3, p3, q3, rfl, rfl, rfl, t3, r3⟩ := trodAll_cons r2
  obtain ⟨rfl, rfl, rfl⟩ := trodAll_nil r3
  obtain rfl : args = #[v0, v1, v2, v3] := by cases args; simp_all
  obtain ⟨rfl, rfl⟩ := trodVars_none hV
  obtain ⟨m0, r0, f0, h0⟩ := open_gen (hval 0 25 v0 rfl rfl) t0
  obtain ⟨x1, h1⟩ := open_cmds (hval 1 26 v1 rfl rfl) t1
  have n1 := bulk_reads Try.underlying26 t1 h1
  obtain ⟨x2, h2⟩ := open_cmds (hval 2 26 v2 rfl rfl) t2
  have n2 := bulk_reads Try.underlying26 t2 h2
  obtain ⟨x3, h3⟩ := open_ilist (hval 3 22 v3 rfl rfl) t3
  have hbk : Rows.uptoBulkAll [d0, d1, d2, d3] ≤ 1048576 := by simpa only [List.append_nil] using (of_decide_eq_true hk : Rows.uptoBulkAll _ ≤ 1048576)
  simp only [Rows.uptoBulkAll] at hbk
  clear hk
  refine (walk v0 v1 v2 v3 m0 r0 f0 x3 x1 x2 W h0 h1 h2 h3 (by omega)).mono fun e W' ⟨he, hb⟩ => ?_
  subst he
  exact ⟨_, rfl, law_post laidOut rfl (fun _ _ => rfl) (by kernel_rfl) Try.underlying4 (by rw [Try.params7]; exact fun t ht => by simp at ht; rcases ht with rfl | rfl | rfl; all_goals exact ⟨by kernel_rfl, of_decide_eq_true (by kernel_rfl)⟩) hW' hb⟩

set_option maxRecDepth 100000 in
theorem lifted (os : Os) (started : os.Started) (H : Type) (enc : TypeId × Value → H) (F : Stop.Interp) :
    ReturnsInHanded {} Try.checked os 7 .any ((Rows.OpenSpec.upto Rows.configCountsSpec).pre6 enc Try.prog Try.f7 Rows.configCountsUptoRow.domain false) (((Rows.OpenSpec.upto Rows.configCountsSpec).at F).post enc Try.prog Try.f7 false true false false) := by
  refine returnsInHanded_of_cond (C := Try.checked) (s := (Rows.OpenSpec.upto Rows.configCountsSpec)) (k := Rows.uptoSmall) rfl own started (by kernel_rfl) Try.func7
    (OpenSpec.witness (enc := enc) (C := Try.checked) (s := (Rows.OpenSpec.upto Rows.configCountsSpec)) (k := Rows.uptoSmall) rfl false ⟨#[], #[.agg #[.int .i64 0, .int .i64 0, .slice none 0 0, .int .i64 0, .slice none 0 0, .slice none 0 0], .slice none 0 0, .slice none 0 0, .slice none 0 0], []⟩ 8 (by kernel_rfl) (by kernel_rfl) (by kernel_rfl)
      (x := ([.agg [.lit (.int .i64 0), .lit (.int .i64 0), .nil, .lit (.int .i64 0), .nil, .nil], .nil, .nil, .nil], [], [])) (by kernel_rfl) rfl (by kernel_rfl)) ?_
  intro W base args ds gs before hval hW _ hk _
  exact contract H enc W base args ds gs before hval hW hk

theorem proved : Rows.ConfigCountsUptoSaid :=
  OpenClaim.holds_of_cond 7 Try.f7 rfl rfl rfl rfl rfl rfl rfl ⟨rfl, rfl, rfl, rfl, rfl⟩ rfl rfl rfl rfl rfl (by kernel_rfl) Try.func7 (by kernel_rfl)
    (of_decide_eq_true (by kernel_rfl)) (by unfold Func.isWrapper; first | (rw [if_pos (by decide +kernel)]; kernel_rfl) | (rw [if_neg (by decide +kernel)]; exact ⟨rfl, rfl⟩))
    (fun os started H enc _ F => lifted os started H enc F)

end Go.Proofs.Ytahpecbcpgjinaa.configCounts
