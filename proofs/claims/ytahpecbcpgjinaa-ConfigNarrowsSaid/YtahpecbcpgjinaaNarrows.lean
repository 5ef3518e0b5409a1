/-
  ConfigNarrows: for every genesis, all lists and every set the law returns true, and what came in reads behind the call as before. No condition.
-/
import Derived.Test.YtahpecbcpgjinaaDd
namespace Go.Proofs.Ytahpecbcpgjinaa.configNarrows
open Go.ChangeShapes Go.WideShapes Go.ChangeAt Go.RowKit

theorem plain {M R : Int} {F xs : List Int} {B C : List Cmd} (P Q : List Bool) (h : quorateB M R F B C xs = true) : quorateB M R F (chosenL B C P) (chosenL (chosenL B C P) C Q) xs = true := by
  have hq := (quorate_iff M R F B C xs).1 h
  have hok := ok_parts hq.1
  have h1 : ∀ c ∈ chosenL B C P, confB R c = true → c ∈ C := fun c hc hf => by
    rcases List.mem_append.1 hc with hc | hc
    · exact hok.2 c hc hf
    · exact picked_mem hc
  have h2 : ∀ c ∈ chosenL (chosenL B C P) C Q, confB R c = true → c ∈ C := fun c hc hf => by
    rcases List.mem_append.1 hc with hc | hc
    · exact h1 c hc hf
    · exact picked_mem hc
  have h3 : ∀ c ∈ B, confB R c = true → c ∈ chosenL B C P := fun c hc _ => List.mem_append_left _ hc
  have h4 : ∀ c ∈ chosenL B C P, confB R c = true → c ∈ chosenL (chosenL B C P) C Q := fun c hc _ => List.mem_append_left _ hc
  refine (quorate_iff ..).2 (narrows hq (ok_mk hok.1 h4) (between_of h3 h1) (between_of (fun c hc hf => h4 c (h3 c hc hf) hf) h2) (between_of h3 h4))


set_option maxRecDepth 100000 in
set_option maxHeartbeats 4000000 in
theorem walk (g vB vC vx vP vQ : Value) (M R : Int) (F xs : List Int) (B C : List Cmd) (P Q : List Bool) (W : World) (hg : Gen W g M R F) (hb : ReadsC W vB B) (hc : ReadsC W vC C) (hx : Reads vi W vx xs) (hp : Reads Value.bool W vP P) (hq : Reads Value.bool W vQ Q) :
    Calls Try.prog 9 #[g, vB, vC, vx, vP, vQ] W (BoolMade W true) := by
  have HG := Lib.hid (And.intro hg (And.intro hb (And.intro hc (And.intro hx (And.intro hp hq)))))
  obtain ⟨vF, cl, vA, vO, rfl, hF, ⟨a2, n2, k2, rfl⟩, ⟨a3, n3, k3, rfl⟩⟩ := hg
  obtain ⟨a1, n1, k1, rfl⟩ := Slc.of_reads hF
  obtain ⟨aox, cx, rfl, hx1, hx2, _, _⟩ := hx
  unfold maxLen at hx2
  clear hF hb hc
  unfold gen at *
  by_cases b0 : largeB F B C = true
  · have HLA := Lib.hid b0
    clear b0
    go_enter Try.func9, Try.ntmps9
    go_wp2_with fail
    refine (awake_any _).mono ?_
    rintro e w2 ⟨rfl, hb⟩
    have KB := Lib.hid ((Blk.new W 25 #[.int .i64 M, .int .i64 R, .slice a1 n1 k1, .int .i64 cl, .slice a2 n2 k2, .slice a3 n3 k3]).on hb)
    have KW := Lib.hid (((Below.refl W.heap.size W).alloc (Nat.le_refl _) (.cells #[.int .i64 M, .int .i64 R, .slice a1 n1 k1, .int .i64 cl, .slice a2 n2 k2, .slice a3 n3 k3] 25)).trans (hb.mono (by simp)))
    clear hb
    obtain ⟨c0, c1, c2, c3, c4, c5, hlt⟩ := blk6 KB.out
    go_wp2_with fail
    refine (large_any _ vB vC M R F B C _ (HG.out.1.on KW.out) (HG.out.2.1.on KW.out) (HG.out.2.2.1.on KW.out)).mono ?_
    rintro e w3 ⟨rfl, hb⟩
    replace KB := Lib.hid (KB.out.on hb)
    replace KW := Lib.hid (KW.out.trans (hb.mono KW.out.size))
    clear hb
    clear c0 c1 c2 c3 c4 c5 hlt
    obtain ⟨c0, c1, c2, c3, c4, c5, hlt⟩ := blk6 KB.out
    rw [HLA.out]
    go_wp2
    go_ret
    exact ⟨rfl, KW.out⟩
  · have HLA := Lib.hid (Bool.eq_false_iff.2 b0)
    have hBC : B.length ≤ 40 ∧ C.length ≤ 40 := by
      have := HLA.out
      unfold largeB at this
      simp only [Bool.or_eq_false_iff, decide_eq_false_iff_not] at this
      omega
    obtain ⟨hB40, hC40⟩ := hBC
    clear b0
    by_cases b1 : 40 < xs.length
    · have e1 : decide ((40 : Int) < xs.length) = true := decide_eq_true (by omega)
      go_enter Try.func9, Try.ntmps9
      go_wp2_with fail
      refine (awake_any _).mono ?_
      rintro e w2 ⟨rfl, hb⟩
      have KB := Lib.hid ((Blk.new W 25 #[.int .i64 M, .int .i64 R, .slice a1 n1 k1, .int .i64 cl, .slice a2 n2 k2, .slice a3 n3 k3]).on hb)
      have KW := Lib.hid (((Below.refl W.heap.size W).alloc (Nat.le_refl _) (.cells #[.int .i64 M, .int .i64 R, .slice a1 n1 k1, .int .i64 cl, .slice a2 n2 k2, .slice a3 n3 k3] 25)).trans (hb.mono (by simp)))
      clear hb
      obtain ⟨c0, c1, c2, c3, c4, c5, hlt⟩ := blk6 KB.out
      go_wp2_with fail
      refine (large_any _ vB vC M R F B C _ (HG.out.1.on KW.out) (HG.out.2.1.on KW.out) (HG.out.2.2.1.on KW.out)).mono ?_
      rintro e w3 ⟨rfl, hb⟩
      replace KB := Lib.hid (KB.out.on hb)
      replace KW := Lib.hid (KW.out.trans (hb.mono KW.out.size))
      clear hb
      clear c0 c1 c2 c3 c4 c5 hlt
      obtain ⟨c0, c1, c2, c3, c4, c5, hlt⟩ := blk6 KB.out
      rw [HLA.out]
      go_wp2
      go_ret
      exact ⟨rfl, KW.out⟩
    · have e1 : decide ((40 : Int) < xs.length) = false := decide_eq_false (by omega)
      by_cases b2 : quorateB M R F B C xs = true
      · have HQ := Lib.hid b2
        have HP := Lib.hid (plain P Q b2)
        clear b2
        go_enter Try.func9, Try.ntmps9
        go_wp2_with fail
        refine (awake_any _).mono ?_
        rintro e w2 ⟨rfl, hb⟩
        have KB := Lib.hid ((Blk.new W 25 #[.int .i64 M, .int .i64 R, .slice a1 n1 k1, .int .i64 cl, .slice a2 n2 k2, .slice a3 n3 k3]).on hb)
        have KW := Lib.hid (((Below.refl W.heap.size W).alloc (Nat.le_refl _) (.cells #[.int .i64 M, .int .i64 R, .slice a1 n1 k1, .int .i64 cl, .slice a2 n2 k2, .slice a3 n3 k3] 25)).trans (hb.mono (by simp)))
        clear hb
        obtain ⟨c0, c1, c2, c3, c4, c5, hlt⟩ := blk6 KB.out
        go_wp2_with fail
        refine (large_any _ vB vC M R F B C _ (HG.out.1.on KW.out) (HG.out.2.1.on KW.out) (HG.out.2.2.1.on KW.out)).mono ?_
        rintro e w3 ⟨rfl, hb⟩
        replace KB := Lib.hid (KB.out.on hb)
        replace KW := Lib.hid (KW.out.trans (hb.mono KW.out.size))
        clear hb
        clear c0 c1 c2 c3 c4 c5 hlt
        obtain ⟨c0, c1, c2, c3, c4, c5, hlt⟩ := blk6 KB.out
        rw [HLA.out]
        go_wp2_with fail
        refine (quorate_any _ vB vC _ M R F B C xs _ (HG.out.1.on KW.out) (HG.out.2.1.on KW.out) (HG.out.2.2.1.on KW.out) (HG.out.2.2.2.1.keep KW.out)).mono ?_
        rintro e w4 ⟨rfl, hb⟩
        replace KB := Lib.hid (KB.out.on hb)
        replace KW := Lib.hid (KW.out.trans (hb.mono KW.out.size))
        clear hb
        clear c0 c1 c2 c3 c4 c5 hlt
        obtain ⟨c0, c1, c2, c3, c4, c5, hlt⟩ := blk6 KB.out
        rw [HQ.out]
        go_wp2_with fail
        refine (chosen_any vB vC vP B C P _ (HG.out.2.1.on KW.out) (HG.out.2.2.1.on KW.out) (HG.out.2.2.2.2.1.keep KW.out) (by omega)).mono ?_
        rintro e w5 ⟨vb, rfl, hr, hb⟩
        replace KB := Lib.hid (KB.out.on hb)
        replace KW := Lib.hid (KW.out.trans (hb.mono KW.out.size))
        clear hb
        clear c0 c1 c2 c3 c4 c5 hlt
        obtain ⟨c0, c1, c2, c3, c4, c5, hlt⟩ := blk6 KB.out
        have HCB := Lib.hid hr
        clear hr
        have hcl : (chosenL B C P).length ≤ 80 := by
          unfold chosenL
          have := picked_len C P
          simp; omega
        generalize chosenL B C P = B2 at *
        go_wp2_with fail
        refine region_left [.is (.agg #[.int .i64 M, .int .i64 R, .slice a1 n1 k1, .int .i64 cl, .slice a2 n2 k2, .slice a3 n3 k3]), .is vb, .is vb, .is vC, .is vQ, leftC (chosenL B2 C Q), .is (.slice aox xs.length cx), .is (.bool true), .is (.bool true)] (by kernel_rfl) rfl (by kernel_rfl) (by kernel_rfl) (.cons ?q0 (.cons ?q1 (.cons ?q2 (.cons ?q3 (.cons ?q4 (.cons ?q5 (.cons ?q6 (.cons ?q7 (.cons ?q8 .nil))))))))) ?qfin
        case q0 =>
          intro wq hbw st  K hK
          have KQ := KW.out.trans (hbw.mono KW.out.size)
          simp only [Act.put, List.setIfInBounds_toArray, List.set_cons_zero, List.set_cons_succ] at hK ⊢
          unfold opStep
          rw [if_pos (by rfl)]
          obtain ⟨d0, d1, d2, d3, d4, d5, dlt⟩ := blk6 (KB.out.on hbw)
          go_simp
          exact hK.out _ _ (Below.refl _ _) rfl _ rfl
        case q1 =>
          intro wq hbw st  K hK
          have KQ := KW.out.trans (hbw.mono KW.out.size)
          simp only [Act.put, List.setIfInBounds_toArray, List.set_cons_zero, List.set_cons_succ] at hK ⊢
          unfold opStep
          rw [if_pos (by rfl)]
          go_simp
          exact hK.out _ _ (Below.refl _ _) rfl _ rfl
        case q2 =>
          intro wq hbw st  K hK
          have KQ := KW.out.trans (hbw.mono KW.out.size)
          simp only [Act.put, List.setIfInBounds_toArray, List.set_cons_zero, List.set_cons_succ] at hK ⊢
          unfold opStep
          rw [if_pos (by rfl)]
          go_simp
          exact hK.out _ _ (Below.refl _ _) rfl _ rfl
        case q3 =>
          intro wq hbw st  K hK
          have KQ := KW.out.trans (hbw.mono KW.out.size)
          simp only [Act.put, List.setIfInBounds_toArray, List.set_cons_zero, List.set_cons_succ] at hK ⊢
          unfold opStep
          rw [if_pos (by rfl)]
          go_simp
          exact hK.out _ _ (Below.refl _ _) rfl _ rfl
        case q4 =>
          intro wq hbw st  K hK
          have KQ := KW.out.trans (hbw.mono KW.out.size)
          simp only [Act.put, List.setIfInBounds_toArray, List.set_cons_zero, List.set_cons_succ] at hK ⊢
          unfold opStep
          rw [if_pos (by rfl)]
          go_simp
          exact hK.out _ _ (Below.refl _ _) rfl _ rfl
        case q5 =>
          intro wq hbw st  K hK
          have KQ := KW.out.trans (hbw.mono KW.out.size)
          simp only [Act.put, List.setIfInBounds_toArray, List.set_cons_zero, List.set_cons_succ] at hK ⊢
          unfold opStep
          rw [if_pos (by rfl)]
          go_simp
          refine (chosen_any vb vC vQ B2 C Q _ (HCB.out.on hbw) (HG.out.2.2.1.on KQ) (HG.out.2.2.2.2.2.keep KQ) (by omega)).mono ?_
          rintro e wz ⟨v, rfl, hr, hbz⟩
          go_simp
          exact hK.out _ _ hbz hr _ rfl
        case q6 =>
          intro wq hbw st  K hK
          have KQ := KW.out.trans (hbw.mono KW.out.size)
          simp only [Act.put, List.setIfInBounds_toArray, List.set_cons_zero, List.set_cons_succ] at hK ⊢
          unfold opStep
          rw [if_pos (by rfl)]
          go_simp
          exact hK.out _ _ (Below.refl _ _) rfl _ rfl
        case q7 =>
          intro wq hbw st x5 h5 K hK
          have KQ := KW.out.trans (hbw.mono KW.out.size)
          simp only [Act.put, List.setIfInBounds_toArray, List.set_cons_zero, List.set_cons_succ] at hK ⊢
          unfold opStep
          rw [if_pos (by rfl)]
          go_simp
          refine (bool_as HP.out (quorate_any _ _ _ _ M R F B2 (chosenL B2 C Q) xs _ (HG.out.1.on KQ) (HCB.out.on hbw) h5 (HG.out.2.2.2.1.keep KQ))).mono ?_
          rintro e wz ⟨rfl, hbz⟩
          go_simp
          exact hK.out _ _ hbz rfl _ rfl
        case q8 =>
          intro wq hbw st x5 h5 K hK
          have KQ := KW.out.trans (hbw.mono KW.out.size)
          simp only [Act.put, List.setIfInBounds_toArray, List.set_cons_zero, List.set_cons_succ] at hK ⊢
          unfold opStep
          rw [if_pos (by rfl)]
          go_simp
          exact hK.out _ _ (Below.refl _ _) rfl _ rfl
        case qfin =>
          intro wq hbw
          intro x5 h5
          try simp only [FinAll]
          simp only [Act.put, List.setIfInBounds_toArray, List.set_cons_zero, List.set_cons_succ]
          replace KW := Lib.hid (KW.out.trans (hbw.mono KW.out.size))
          clear hbw
          go_wp2
          go_ret
          exact ⟨rfl, KW.out⟩
      · have HQ := Lib.hid (Bool.eq_false_iff.2 b2)
        clear b2
        go_enter Try.func9, Try.ntmps9
        go_wp2_with fail
        refine (awake_any _).mono ?_
        rintro e w2 ⟨rfl, hb⟩
        have KB := Lib.hid ((Blk.new W 25 #[.int .i64 M, .int .i64 R, .slice a1 n1 k1, .int .i64 cl, .slice a2 n2 k2, .slice a3 n3 k3]).on hb)
        have KW := Lib.hid (((Below.refl W.heap.size W).alloc (Nat.le_refl _) (.cells #[.int .i64 M, .int .i64 R, .slice a1 n1 k1, .int .i64 cl, .slice a2 n2 k2, .slice a3 n3 k3] 25)).trans (hb.mono (by simp)))
        clear hb
        obtain ⟨c0, c1, c2, c3, c4, c5, hlt⟩ := blk6 KB.out
        go_wp2_with fail
        refine (large_any _ vB vC M R F B C _ (HG.out.1.on KW.out) (HG.out.2.1.on KW.out) (HG.out.2.2.1.on KW.out)).mono ?_
        rintro e w3 ⟨rfl, hb⟩
        replace KB := Lib.hid (KB.out.on hb)
        replace KW := Lib.hid (KW.out.trans (hb.mono KW.out.size))
        clear hb
        clear c0 c1 c2 c3 c4 c5 hlt
        obtain ⟨c0, c1, c2, c3, c4, c5, hlt⟩ := blk6 KB.out
        rw [HLA.out]
        go_wp2_with fail
        refine (quorate_any _ vB vC _ M R F B C xs _ (HG.out.1.on KW.out) (HG.out.2.1.on KW.out) (HG.out.2.2.1.on KW.out) (HG.out.2.2.2.1.keep KW.out)).mono ?_
        rintro e w4 ⟨rfl, hb⟩
        replace KB := Lib.hid (KB.out.on hb)
        replace KW := Lib.hid (KW.out.trans (hb.mono KW.out.size))
        clear hb
        clear c0 c1 c2 c3 c4 c5 hlt
        obtain ⟨c0, c1, c2, c3, c4, c5, hlt⟩ := blk6 KB.out
        rw [HQ.out]
        go_wp2
        go_ret
        exact ⟨rfl, KW.out⟩

set_option maxRecDepth 100000 in
theorem lifted (os : Os) (started : os.Started) (H : Type) (enc : TypeId × Value → H) :
    ReturnsInHanded {} Try.checked os 9 .any (Rows.configNarrowsSpec.pre6 enc Try.prog Try.f9 Rows.configNarrowsRow.domain false) (Rows.configNarrowsSpec.post enc Try.prog Try.f9 false true false false) := by
  refine returnsInHanded_of_change (C := Try.checked) own started (by kernel_rfl) Try.func9
    (ChangeSpec.witness6 (enc := enc) (C := Try.checked) false ⟨#[], #[.agg #[.int .i64 0, .int .i64 0, .slice none 0 0, .int .i64 0, .slice none 0 0, .slice none 0 0], .slice none 0 0, .slice none 0 0, .slice none 0 0, .slice none 0 0, .slice none 0 0], []⟩ 8 (by kernel_rfl) (by kernel_rfl) (by kernel_rfl) (by kernel_rfl)) ?_
  intro W base args ds gs before hval0 hW hcnd _
  have hval : ∀ (j : Nat) t v, Try.f9.params[j]? = some t → args[j]? = some v → Value.okWide Try.prog W .any base t v := hval0
  have hW' := hW
  obtain ⟨p, q, hA0, hV, rfl, hfz, hnd⟩ := hW
  have hA : DataW.TrodAll enc Try.prog W 0 (fun _ => true) true Try.f9.params.toList args.toList ds p := hA0
  rw [Try.params9] at hA hval
  obtain ⟨v0, vs0, d0, ds0, p0, q0, hargs, rfl, rfl, t0, r0⟩ := trodAll_cons hA
  obtain ⟨v1, vs1, d1, ds1, p1, q1, rfl, rfl, rfl, t1, r1⟩ := trodAll_cons r0
  obtain ⟨v2, vs2, d2, ds2, p2, q2, rfl, rfl, rfl, t2, r2⟩ := trodAll_cons r1
  obtain ⟨v3, vs3, d3, ds3, p3, q3, rfl, rfl, rfl, t3, r3⟩ := trodAll_cons r2
  obtain ⟨v4, vs4, d4, ds4, p4, q4, rfl, rfl, rfl, t4, r4⟩ := trodAll_cons r3
  obtain ⟨v5, vs5, d5, ds5, p5, q5, rfl, rfl, rfl, t5, r5⟩ := trodAll_cons r4
  obtain ⟨rfl, rfl, rfl⟩ := trodAll_nil r5
  obtain rfl : args = #[v0, v1, v2, v3, v4, v5] := by cases args; simp_all
  obtain ⟨rfl, rfl⟩ := trodVars_none hV
  obtain ⟨m0, r0, f0, h0⟩ := open_gen (hval 0 25 v0 rfl rfl) t0
  obtain ⟨x1, h1⟩ := open_cmds (hval 1 26 v1 rfl rfl) t1
  obtain ⟨x2, h2⟩ := open_cmds (hval 2 26 v2 rfl rfl) t2
  obtain ⟨x3, h3⟩ := open_ilist (hval 3 22 v3 rfl rfl) t3
  obtain ⟨x4, h4⟩ := open_blist (hval 4 43 v4 rfl rfl) t4
  obtain ⟨x5, h5⟩ := open_blist (hval 5 43 v5 rfl rfl) t5
  refine (walk v0 v1 v2 v3 v4 v5 m0 r0 f0 x3 x1 x2 x4 x5 W h0 h1 h2 h3 h4 h5).mono fun e W' ⟨he, hb⟩ => ?_
  subst he
  exact ⟨_, rfl, law_post laidOut rfl (fun _ _ => rfl) (by kernel_rfl) Try.underlying4 (by rw [Try.params9]; exact fun t ht => by simp at ht; rcases ht with  rfl | rfl | rfl | rfl ; all_goals exact ⟨by kernel_rfl, of_decide_eq_true (by kernel_rfl)⟩) hW' hb⟩

theorem over : Rows.configNarrowsRow.holds Try.pinned (OpenSpec.ofChange Rows.configNarrowsSpec) :=
  OpenClaim.holds_of_wide 9 Try.f9 rfl rfl rfl rfl rfl rfl rfl ⟨rfl, rfl, rfl, rfl, rfl⟩ rfl rfl rfl rfl rfl (by kernel_rfl) Try.func9 (by kernel_rfl)
    (of_decide_eq_true (by kernel_rfl)) (by unfold Func.isWrapper; first | (rw [if_pos (by decide +kernel)]; kernel_rfl) | (rw [if_neg (by decide +kernel)]; exact ⟨rfl, rfl⟩))
    (fun os started H enc _ => lifted os started H enc)

theorem proved : Rows.ConfigNarrowsSaid := over

end Go.Proofs.Ytahpecbcpgjinaa.configNarrows
