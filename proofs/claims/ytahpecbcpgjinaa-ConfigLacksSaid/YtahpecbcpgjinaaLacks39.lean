/-
  ConfigLacks: for every genesis, all lists and every set the law returns true, and what came in reads behind the call as before. No condition.
-/
import Derived.Test.YtahpecbcpgjinaaIm
namespace Go.Proofs.Ytahpecbcpgjinaa.configLacks
open Go.ChangeShapes Go.WideShapes Go.ChangeAt Go.RowKit

set_option maxRecDepth 100000 in
set_option maxHeartbeats 8000000 in
theorem walk (g vB vC vx : Value) (M R : Int) (F xs : List Int) (B C : List Cmd) (W : World) (hg : Gen W g M R F) (hb : ReadsC W vB B) (hc : ReadsC W vC C) (hx : Reads vi W vx xs) :
    Calls Try.prog 6 #[g, vB, vC, vx] W (BoolMade W true) := by
  have HG := Lib.hid (And.intro hg (And.intro hb (And.intro hc hx)))
  obtain ⟨vF, cl, vA, vO, rfl, hF, ⟨a2, n2, k2, rfl⟩, ⟨a3, n3, k3, rfl⟩⟩ := hg
  obtain ⟨a1, n1, k1, rfl⟩ := Slc.of_reads hF
  obtain ⟨aox, cx, rfl, hx1, hx2, _, _⟩ := hx
  unfold maxLen at hx2
  clear hF hb hc
  unfold gen at *
  by_cases b0 : wideB R F B C = true
  · have HWD := Lib.hid b0
    clear b0
    go_enter Try.func6, Try.ntmps6
    go_wp2_with fail
    refine (awake_any _).mono ?_
    rintro e w2 ⟨rfl, hb⟩
    have KB := Lib.hid ((Blk.new W 25 #[.int .i64 M, .int .i64 R, .slice a1 n1 k1, .int .i64 cl, .slice a2 n2 k2, .slice a3 n3 k3]).on hb)
    have KW := Lib.hid (((Below.refl W.heap.size W).alloc (Nat.le_refl _) (.cells #[.int .i64 M, .int .i64 R, .slice a1 n1 k1, .int .i64 cl, .slice a2 n2 k2, .slice a3 n3 k3] 25)).trans (hb.mono (by simp)))
    clear hb
    obtain ⟨c0, c1, c2, c3, c4, c5, hlt⟩ := blk6 KB.out
    go_wp2_with fail
    refine (wide_any _ vB vC M R F B C _ (HG.out.1.on KW.out) (HG.out.2.1.on KW.out) (HG.out.2.2.1.on KW.out)).mono ?_
    rintro e w3 ⟨rfl, hb⟩
    replace KB := Lib.hid (KB.out.on hb)
    replace KW := Lib.hid (KW.out.trans (hb.mono KW.out.size))
    clear hb
    clear c0 c1 c2 c3 c4 c5 hlt
    obtain ⟨c0, c1, c2, c3, c4, c5, hlt⟩ := blk6 KB.out
    rw [HWD.out]
    go_wp2
    go_ret
    exact ⟨rfl, KW.out⟩
  · have HWD := Lib.hid (Bool.eq_false_iff.2 b0)
    obtain ⟨hB, hC, h7⟩ := wide_no HWD.out
    clear b0
    by_cases b1 : 40 < xs.length
    · have e1 : decide ((40 : Int) < xs.length) = true := decide_eq_true (by omega)
      go_enter Try.func6, Try.ntmps6
      go_wp2_with fail
      refine (awake_any _).mono ?_
      rintro e w2 ⟨rfl, hb⟩
      have KB := Lib.hid ((Blk.new W 25 #[.int .i64 M, .int .i64 R, .slice a1 n1 k1, .int .i64 cl, .slice a2 n2 k2, .slice a3 n3 k3]).on hb)
      have KW := Lib.hid (((Below.refl W.heap.size W).alloc (Nat.le_refl _) (.cells #[.int .i64 M, .int .i64 R, .slice a1 n1 k1, .int .i64 cl, .slice a2 n2 k2, .slice a3 n3 k3] 25)).trans (hb.mono (by simp)))
      clear hb
      obtain ⟨c0, c1, c2, c3, c4, c5, hlt⟩ := blk6 KB.out
      go_wp2_with fail
      refine (wide_any _ vB vC M R F B C _ (HG.out.1.on KW.out) (HG.out.2.1.on KW.out) (HG.out.2.2.1.on KW.out)).mono ?_
      rintro e w3 ⟨rfl, hb⟩
      replace KB := Lib.hid (KB.out.on hb)
      replace KW := Lib.hid (KW.out.trans (hb.mono KW.out.size))
      clear hb
      clear c0 c1 c2 c3 c4 c5 hlt
      obtain ⟨c0, c1, c2, c3, c4, c5, hlt⟩ := blk6 KB.out
      rw [HWD.out]
      go_wp2
      go_ret
      exact ⟨rfl, KW.out⟩
    · have e1 : decide ((40 : Int) < xs.length) = false := decide_eq_false (by omega)
      by_cases hl : lackB M R F B C xs = true
      · have HLB := Lib.hid hl
        have HIQ := Lib.hid (lack_isq hl)
        have HQN : Hid (quorateB M R F B C xs = false) := Lib.hid (by unfold lackB at hl; rw [Bool.and_eq_true, Bool.not_eq_true'] at hl; exact hl.2)
        clear hl
        have hs12 : (lackL M R F B C xs).length ≤ maxLen ∨ True := .inr trivial
        clear hs12
        go_enter Try.func6, Try.ntmps6
        go_wp2_with fail
        refine (awake_any _).mono ?_
        rintro e w2 ⟨rfl, hb⟩
        have KB := Lib.hid ((Blk.new W 25 #[.int .i64 M, .int .i64 R, .slice a1 n1 k1, .int .i64 cl, .slice a2 n2 k2, .slice a3 n3 k3]).on hb)
        have KW := Lib.hid (((Below.refl W.heap.size W).alloc (Nat.le_refl _) (.cells #[.int .i64 M, .int .i64 R, .slice a1 n1 k1, .int .i64 cl, .slice a2 n2 k2, .slice a3 n3 k3] 25)).trans (hb.mono (by simp)))
        clear hb
        obtain ⟨c0, c1, c2, c3, c4, c5, hlt⟩ := blk6 KB.out
        go_wp2_with fail
        refine (wide_any _ vB vC M R F B C _ (HG.out.1.on KW.out) (HG.out.2.1.on KW.out) (HG.out.2.2.1.on KW.out)).mono ?_
        rintro e w3 ⟨rfl, hb⟩
        replace KB := Lib.hid (KB.out.on hb)
        replace KW := Lib.hid (KW.out.trans (hb.mono KW.out.size))
        clear hb
        clear c0 c1 c2 c3 c4 c5 hlt
        obtain ⟨c0, c1, c2, c3, c4, c5, hlt⟩ := blk6 KB.out
        rw [HWD.out]
        go_wp2_with fail
        refine (lacking_any _ vB vC _ M R F B C xs _ (HG.out.1.on KW.out) (HG.out.2.1.on KW.out) (HG.out.2.2.1.on KW.out) (HG.out.2.2.2.keep KW.out)).mono ?_
        rintro e w4 ⟨vl, rfl, hr, hb⟩
        replace KB := Lib.hid (KB.out.on hb)
        replace KW := Lib.hid (KW.out.trans (hb.mono KW.out.size))
        clear hb
        clear c0 c1 c2 c3 c4 c5 hlt
        obtain ⟨c0, c1, c2, c3, c4, c5, hlt⟩ := blk6 KB.out
        have HL1 := Lib.hid hr
        clear hr
        rw [HLB.out]
        obtain ⟨al1, cl1, rfl, -, ql1, -, -⟩ := HL1.out
        unfold maxLen at ql1
        go_wp2_with fail
        refine (rlacking_any _ vB vC _ M R F xs B C _ (HG.out.1.on KW.out) (HG.out.2.1.on KW.out) (HG.out.2.2.1.on KW.out) (HG.out.2.2.2.keep KW.out) hB hC h7).mono ?_
        rintro e w5 ⟨vr, rfl, hr, hb⟩
        replace KB := Lib.hid (KB.out.on hb)
        replace KW := Lib.hid (KW.out.trans (hb.mono KW.out.size))
        replace HL1 := Lib.hid (HL1.out.keep hb)
        clear hb
        clear c0 c1 c2 c3 c4 c5 hlt
        obtain ⟨c0, c1, c2, c3, c4, c5, hlt⟩ := blk6 KB.out
        have HL2 := Lib.hid hr
        clear hr
        rw [HLB.out]
        obtain ⟨al2, cl2, rfl, -, ql2, -, -⟩ := HL2.out
        unfold maxLen at ql2
        go_wp2_with fail
        refine (same31_t HL1.out HL2.out).mono ?_
        rintro e w6 ⟨rfl, hb⟩
        replace KB := Lib.hid (KB.out.on hb)
        replace KW := Lib.hid (KW.out.trans (hb.mono KW.out.size))
        replace HL1 := Lib.hid (HL1.out.keep hb)
        replace HL2 := Lib.hid (HL2.out.keep hb)
        clear hb
        clear c0 c1 c2 c3 c4 c5 hlt
        obtain ⟨c0, c1, c2, c3, c4, c5, hlt⟩ := blk6 KB.out
        go_wp2_with fail
        refine (isq_any M _ _ (lackL M R F B C xs) xs _ HL1.out (HG.out.2.2.2.keep KW.out)).mono ?_
        rintro e w40 ⟨rfl, rfl⟩
        rw [HIQ.out]
        go_wp2_with fail
        refine (bool_as HQN.out (quorate_any _ vB vC _ M R F B C xs _ (HG.out.1.on KW.out) (HG.out.2.1.on KW.out) (HG.out.2.2.1.on KW.out) (HG.out.2.2.2.keep KW.out))).mono ?_
        rintro e w7 ⟨rfl, hb⟩
        replace KB := Lib.hid (KB.out.on hb)
        replace KW := Lib.hid (KW.out.trans (hb.mono KW.out.size))
        replace HL1 := Lib.hid (HL1.out.keep hb)
        replace HL2 := Lib.hid (HL2.out.keep hb)
        clear hb
        clear c0 c1 c2 c3 c4 c5 hlt
        obtain ⟨c0, c1, c2, c3, c4, c5, hlt⟩ := blk6 KB.out
        go_wp2
        go_ret
        exact ⟨rfl, KW.out⟩
      · have HLB := Lib.hid (Bool.eq_false_iff.2 hl)
        have HQN : Hid (quorateB M R F B C xs = okB M R F B C) := Lib.hid (by
          have h := HLB.out
          unfold lackB at h
          cases ho : okB M R F B C with
          | true => rw [ho] at h; simpa using h
          | false => unfold quorateB; rw [ho]; rfl)
        clear hl
        go_enter Try.func6, Try.ntmps6
        go_wp2_with fail
        refine (awake_any _).mono ?_
        rintro e w2 ⟨rfl, hb⟩
        have KB := Lib.hid ((Blk.new W 25 #[.int .i64 M, .int .i64 R, .slice a1 n1 k1, .int .i64 cl, .slice a2 n2 k2, .slice a3 n3 k3]).on hb)
        have KW := Lib.hid (((Below.refl W.heap.size W).alloc (Nat.le_refl _) (.cells #[.int .i64 M, .int .i64 R, .slice a1 n1 k1, .int .i64 cl, .slice a2 n2 k2, .slice a3 n3 k3] 25)).trans (hb.mono (by simp)))
        clear hb
        obtain ⟨c0, c1, c2, c3, c4, c5, hlt⟩ := blk6 KB.out
        go_wp2_with fail
        refine (wide_any _ vB vC M R F B C _ (HG.out.1.on KW.out) (HG.out.2.1.on KW.out) (HG.out.2.2.1.on KW.out)).mono ?_
        rintro e w3 ⟨rfl, hb⟩
        replace KB := Lib.hid (KB.out.on hb)
        replace KW := Lib.hid (KW.out.trans (hb.mono KW.out.size))
        clear hb
        clear c0 c1 c2 c3 c4 c5 hlt
        obtain ⟨c0, c1, c2, c3, c4, c5, hlt⟩ := blk6 KB.out
        rw [HWD.out]
        go_wp2_with fail
        refine (lacking_any _ vB vC _ M R F B C xs _ (HG.out.1.on KW.out) (HG.out.2.1.on KW.out) (HG.out.2.2.1.on KW.out) (HG.out.2.2.2.keep KW.out)).mono ?_
        rintro e w4 ⟨vl, rfl, hr, hb⟩
        replace KB := Lib.hid (KB.out.on hb)
        replace KW := Lib.hid (KW.out.trans (hb.mono KW.out.size))
        clear hb
        clear c0 c1 c2 c3 c4 c5 hlt
        obtain ⟨c0, c1, c2, c3, c4, c5, hlt⟩ := blk6 KB.out
        have HL1 := Lib.hid hr
        clear hr
        rw [HLB.out]
        obtain ⟨al1, cl1, rfl, -, ql1, -, -⟩ := HL1.out
        unfold maxLen at ql1
        go_wp2_with fail
        refine (rlacking_any _ vB vC _ M R F xs B C _ (HG.out.1.on KW.out) (HG.out.2.1.on KW.out) (HG.out.2.2.1.on KW.out) (HG.out.2.2.2.keep KW.out) hB hC h7).mono ?_
        rintro e w5 ⟨vr, rfl, hr, hb⟩
        replace KB := Lib.hid (KB.out.on hb)
        replace KW := Lib.hid (KW.out.trans (hb.mono KW.out.size))
        replace HL1 := Lib.hid (HL1.out.keep hb)
        clear hb
        clear c0 c1 c2 c3 c4 c5 hlt
        obtain ⟨c0, c1, c2, c3, c4, c5, hlt⟩ := blk6 KB.out
        have HL2 := Lib.hid hr
        clear hr
        rw [HLB.out]
        obtain ⟨al2, cl2, rfl, -, ql2, -, -⟩ := HL2.out
        unfold maxLen at ql2
        go_wp2_with fail
        refine (same31_t HL1.out HL2.out).mono ?_
        rintro e w6 ⟨rfl, hb⟩
        replace KB := Lib.hid (KB.out.on hb)
        replace KW := Lib.hid (KW.out.trans (hb.mono KW.out.size))
        replace HL1 := Lib.hid (HL1.out.keep hb)
        replace HL2 := Lib.hid (HL2.out.keep hb)
        clear hb
        clear c0 c1 c2 c3 c4 c5 hlt
        obtain ⟨c0, c1, c2, c3, c4, c5, hlt⟩ := blk6 KB.out
        go_wp2_with fail
        refine (rinterval_any _ vB vC M R F B C _ (HG.out.1.on KW.out) (HG.out.2.1.on KW.out) (HG.out.2.2.1.on KW.out) hB hC h7).mono ?_
        rintro e w7 ⟨vI, rfl, -, hb⟩
        replace KB := Lib.hid (KB.out.on hb)
        replace KW := Lib.hid (KW.out.trans (hb.mono KW.out.size))
        replace HL1 := Lib.hid (HL1.out.keep hb)
        replace HL2 := Lib.hid (HL2.out.keep hb)
        clear hb
        clear c0 c1 c2 c3 c4 c5 hlt
        obtain ⟨c0, c1, c2, c3, c4, c5, hlt⟩ := blk6 KB.out
        go_wp2_with fail
        refine (bool_as HQN.out (quorate_any _ vB vC _ M R F B C xs _ (HG.out.1.on KW.out) (HG.out.2.1.on KW.out) (HG.out.2.2.1.on KW.out) (HG.out.2.2.2.keep KW.out))).mono ?_
        rintro e w8 ⟨rfl, hb⟩
        replace KB := Lib.hid (KB.out.on hb)
        replace KW := Lib.hid (KW.out.trans (hb.mono KW.out.size))
        replace HL1 := Lib.hid (HL1.out.keep hb)
        replace HL2 := Lib.hid (HL2.out.keep hb)
        clear hb
        clear c0 c1 c2 c3 c4 c5 hlt
        obtain ⟨c0, c1, c2, c3, c4, c5, hlt⟩ := blk6 KB.out
        generalize okB M R F B C = ok at *
        go_wp2
        go_ret
        exact ⟨rfl, KW.out⟩

set_option maxRecDepth 100000 in
theorem lifted (os : Os) (started : os.Started) (H : Type) (enc : TypeId × Value → H) :
    ReturnsInHanded {} Try.checked os 6 .any (Rows.configLacksSpec.pre6 enc Try.prog Try.f6 Rows.configLacksRow.domain false) (Rows.configLacksSpec.post enc Try.prog Try.f6 false true false false) := by
  refine returnsInHanded_of_change (C := Try.checked) own started (by kernel_rfl) Try.func6
    (ChangeSpec.witness6 (enc := enc) (C := Try.checked) false ⟨#[], #[.agg #[.int .i64 0, .int .i64 0, .slice none 0 0, .int .i64 0, .slice none 0 0, .slice none 0 0], .slice none 0 0, .slice none 0 0, .slice none 0 0], []⟩ 8 (by kernel_rfl) (by kernel_rfl) (by kernel_rfl) (by kernel_rfl)) ?_
  intro W base args ds gs before hval0 hW hcnd _
  have hval : ∀ (j : Nat) t v, Try.f6.params[j]? = some t → args[j]? = some v → Value.okWide Try.prog W .any base t v := hval0
  have hW' := hW
  obtain ⟨p, q, hA0, hV, rfl, hfz, hnd⟩ := hW
  have hA : DataW.TrodAll enc Try.prog W 0 (fun _ => true) true Try.f6.params.toList args.toList ds p := hA0
  rw [Try.params6] at hA hval
  obtain ⟨v0, vs0, d0, ds0, p0, q0, hargs, rfl, rfl, t0, r0⟩ := trodAll_cons hA
  obtain ⟨v1, vs1, d1, ds1, p1, q1, rfl, rfl, rfl, t1, r1⟩ := trodAll_cons r0
  obtain ⟨v2, vs2, d2, ds2, p2, q2, rfl, rfl, rfl, t2, r2⟩ := trodAll_cons r1
  obtain ⟨v3, vs3, d3, ds3, p3, q3, rfl, rfl, rfl, t3, r3⟩ := trodAll_cons r2
  obtain ⟨rfl, rfl, rfl⟩ := trodAll_nil r3
  obtain rfl : args = #[v0, v1, v2, v3] := by cases args; simp_all
  obtain ⟨rfl, rfl⟩ := trodVars_none hV
  obtain ⟨m0, r0, f0, h0⟩ := open_gen (hval 0 25 v0 rfl rfl) t0
  obtain ⟨x1, h1⟩ := open_cmds (hval 1 26 v1 rfl rfl) t1
  obtain ⟨x2, h2⟩ := open_cmds (hval 2 26 v2 rfl rfl) t2
  obtain ⟨x3, h3⟩ := open_ilist (hval 3 22 v3 rfl rfl) t3
  refine (walk v0 v1 v2 v3 m0 r0 f0 x3 x1 x2 W h0 h1 h2 h3).mono fun e W' ⟨he, hb⟩ => ?_
  subst he
  exact ⟨_, rfl, law_post laidOut rfl (fun _ _ => rfl) (by kernel_rfl) Try.underlying4 (by rw [Try.params6]; exact fun t ht => by simp at ht; rcases ht with  rfl | rfl | rfl ; all_goals exact ⟨by kernel_rfl, of_decide_eq_true (by kernel_rfl)⟩) hW' hb⟩

theorem over : Rows.configLacksRow.holds Try.pinned (OpenSpec.ofChange Rows.configLacksSpec) :=
  OpenClaim.holds_of_wide 6 Try.f6 rfl rfl rfl rfl rfl rfl rfl ⟨rfl, rfl, rfl, rfl, rfl⟩ rfl rfl rfl rfl rfl (by kernel_rfl) Try.func6 (by kernel_rfl)
    (of_decide_eq_true (by kernel_rfl)) (by unfold Func.isWrapper; first | (rw [if_pos (by decide +kernel)]; kernel_rfl) | (rw [if_neg (by decide +kernel)]; exact ⟨rfl, rfl⟩))
    (fun os started H enc _ => lifted os started H enc)

theorem proved : Rows.ConfigLacksSaid := over

end Go.Proofs.Ytahpecbcpgjinaa.configLacks
