/-
  ConfigMembers: for every genesis and every list of commands the law returns true, and what came in reads behind the call as before. No condition.
-/
import Derived.Test.YtahpecbcpgjinaaDc
namespace Go.Proofs.Ytahpecbcpgjinaa
open Go.RowKit

set_option maxRecDepth 100000 in
set_option maxHeartbeats 4000000 in
/-- Members of the reference. -/
theorem rmembers_any (g v : Value) (M R : Int) (F : List Int) (L : List Cmd) (W : World) (hg : Gen W g M R F) (hr : ReadsC W v L) (hn : L.length ≤ 1000000) :
    Calls Try.prog 17 #[g, v] W (MadeI W (membersL M R F L)) := by
  have HG := Lib.hid (And.intro hg hr)
  obtain ⟨vF, cl, vA, vO, rfl, hF, ⟨a2, n2, k2, rfl⟩, ⟨a3, n3, k3, rfl⟩⟩ := hg
  obtain ⟨a1, n1, k1, rfl⟩ := Slc.of_reads hF
  clear hr
  have HF := Lib.hid hF
  clear hF
  unfold gen at *
  by_cases hus : usableB M R F = true
  · obtain ⟨_, ⟨hR1, hR2⟩, hF0, _, _⟩ := usable_parts hus
    have HML : Hid (membersL M R F L = orFirst F (membersR R F (confL R L))) := Lib.hid (by unfold membersL; rw [if_pos hus, membersR_conf])
    have HU := Lib.hid (And.intro hus hF0)
    clear hus hF0
    go_enter Try.func17, Try.ntmps17
    go_wp2_with fail
    refine (rusable_any _ M R F _ (HG.out.1.on ((Below.refl _ _).alloc (Nat.le_refl _) _))).mono ?_
    rintro e w2 ⟨rfl, hb⟩
    have KB := Lib.hid ((Blk.new W 25 #[.int .i64 M, .int .i64 R, .slice a1 n1 k1, .int .i64 cl, .slice a2 n2 k2, .slice a3 n3 k3]).on hb)
    have KW := Lib.hid (((Below.refl W.heap.size W).alloc (Nat.le_refl _) (.cells #[.int .i64 M, .int .i64 R, .slice a1 n1 k1, .int .i64 cl, .slice a2 n2 k2, .slice a3 n3 k3] 25)).trans (hb.mono (by simp)))
    clear hb
    obtain ⟨c0, c1, c2, c3, c4, c5, hlt⟩ := blk6 KB.out
    rw [HU.out.1]
    go_wp2_with fail
    refine region_left [.is (.agg #[.int .i64 M, .int .i64 R, .slice a1 n1 k1, .int .i64 cl, .slice a2 n2 k2, .slice a3 n3 k3]), .is (.agg #[.int .i64 M, .int .i64 R, .slice a1 n1 k1, .int .i64 cl, .slice a2 n2 k2, .slice a3 n3 k3]), .is v, .has (fun x w => ReadsC w x (confL R L)) (fun _ _ _ hb h => h.on hb), leftReads vi (membersR R F (confL R L)), leftReads vi (membersR R F (confL R L))] (by kernel_rfl) rfl (by kernel_rfl) (by kernel_rfl) (.cons ?q0 (.cons ?q1 (.cons ?q2 (.cons ?q3 (.cons ?q4 (.cons ?q5 .nil)))))) ?qfin
    case q0 =>
      intro wq hbw st  K hK
      have KQ := KW.out.trans (hbw.mono KW.out.size)
      simp only [Act.put, List.setIfInBounds_toArray, List.set_cons_zero, List.set_cons_succ] at hK ⊢
      unfold opStep
      rw [if_pos (by rfl)]
      obtain ⟨d0, d1, d2, d3, d4, d5, dlt⟩ := blk6 (KB.out.on hbw)
      go_simp
      exact hK.out _ _ (Below.refl _ _) rfl _ rfl
    case q1 =>
      intro wq hbw st  K hK
      have KQ := KW.out.trans (hbw.mono KW.out.size)
      simp only [Act.put, List.setIfInBounds_toArray, List.set_cons_zero, List.set_cons_succ] at hK ⊢
      unfold opStep
      rw [if_pos (by rfl)]
      obtain ⟨d0, d1, d2, d3, d4, d5, dlt⟩ := blk6 (KB.out.on hbw)
      go_simp
      exact hK.out _ _ (Below.refl _ _) rfl _ rfl
    case q2 =>
      intro wq hbw st  K hK
      have KQ := KW.out.trans (hbw.mono KW.out.size)
      simp only [Act.put, List.setIfInBounds_toArray, List.set_cons_zero, List.set_cons_succ] at hK ⊢
      unfold opStep
      rw [if_pos (by rfl)]
      go_simp
      exact hK.out _ _ (Below.refl _ _) rfl _ rfl
    case q3 =>
      intro wq hbw st  K hK
      have KQ := KW.out.trans (hbw.mono KW.out.size)
      simp only [Act.put, List.setIfInBounds_toArray, List.set_cons_zero, List.set_cons_succ] at hK ⊢
      unfold opStep
      rw [if_pos (by rfl)]
      go_simp
      refine (conf_any _ _ M R F L _ (HG.out.1.on KQ) (HG.out.2.on KQ) hn).mono ?_
      rintro e wz ⟨v, rfl, hr, hbz⟩
      go_simp
      exact hK.out _ _ hbz hr _ rfl
    case q4 =>
      intro wq hbw st x3 h3 K hK
      have KQ := KW.out.trans (hbw.mono KW.out.size)
      simp only [Act.put, List.setIfInBounds_toArray, List.set_cons_zero, List.set_cons_succ] at hK ⊢
      unfold opStep
      rw [if_pos (by rfl)]
      go_simp
      refine (replicas_any _ _ M R F _ _ (HG.out.1.on KQ) h3 ⟨hR1, hR2⟩).mono ?_
      rintro e wz ⟨v, rfl, hr, hbz⟩
      go_simp
      exact hK.out _ _ hbz hr _ rfl
    case q5 =>
      intro wq hbw st x3 h3 x4 h4 K hK
      have KQ := KW.out.trans (hbw.mono KW.out.size)
      simp only [Act.put, List.setIfInBounds_toArray, List.set_cons_zero, List.set_cons_succ] at hK ⊢
      unfold opStep
      rw [if_pos (by rfl)]
      go_simp
      exact hK.out _ _ (Below.refl _ _) h4 _ rfl
    case qfin =>
      intro wq hbw
      intro x3 h3 x4 h4 x5 h5
      try simp only [FinAll]
      simp only [Act.put, List.setIfInBounds_toArray, List.set_cons_zero, List.set_cons_succ]
      replace KB := Lib.hid (KB.out.on hbw)
      replace KW := Lib.hid (KW.out.trans (hbw.mono KW.out.size))
      have HX := Lib.hid h5
      clear hbw h3 h4 c0 c1 c2 c3 c4 c5 hlt
      obtain ⟨c0, c1, c2, c3, c4, c5, hlt⟩ := blk6 KB.out
      obtain ⟨aox, cx, rfl, hl, hm, _, _⟩ := h5
      unfold maxLen at hm
      obtain ⟨bF, oF, cF, heF, hlF, hmF, hbF, hcF⟩ := first_cell (HF.out.keep KW.out) HU.out.2
      injection heF with e1 e2 e3
      subst e1 e2 e3
      unfold maxLen at hmF
      have hF1 : 0 < F.length := List.length_pos_iff.2 HU.out.2
      generalize membersR R F (confL R L) = mr at *
      by_cases hm0 : mr = []
      · have HE : Hid (membersL M R F L = [F.headD 0]) := Lib.hid (by rw [HML.out, orFirst, if_pos hm0])
        have h0 : ((mr.length : Int) == 0) = true := beq_t (by rw [hm0]; rfl)
        clear hm0
        generalize F.headD 0 = f0 at *
        go_wp2
        go_ret
        exact ⟨_, rfl, by rw [HE.out]; exact reads_one (Blk.new _ _ _), KW.out.alloc KW.out.size _⟩
      · have HE : Hid (membersL M R F L = mr) := Lib.hid (by rw [HML.out, orFirst, if_neg hm0])
        have h0 : ((mr.length : Int) == 0) = false := beq_f (by have := List.length_pos_iff.2 hm0; omega)
        clear hm0
        go_wp2
        go_ret
        exact ⟨_, rfl, by rw [HE.out]; exact HX.out, KW.out⟩
  · have HML : Hid (membersL M R F L = []) := Lib.hid (by unfold membersL; rw [if_neg hus])
    have HU := Lib.hid (Bool.eq_false_iff.2 hus)
    clear hus
    go_enter Try.func17, Try.ntmps17
    go_wp2_with fail
    refine (rusable_any _ M R F _ (HG.out.1.on ((Below.refl _ _).alloc (Nat.le_refl _) _))).mono ?_
    rintro e w2 ⟨rfl, hb⟩
    have KB := Lib.hid ((Blk.new W 25 #[.int .i64 M, .int .i64 R, .slice a1 n1 k1, .int .i64 cl, .slice a2 n2 k2, .slice a3 n3 k3]).on hb)
    have KW := Lib.hid (((Below.refl W.heap.size W).alloc (Nat.le_refl _) (.cells #[.int .i64 M, .int .i64 R, .slice a1 n1 k1, .int .i64 cl, .slice a2 n2 k2, .slice a3 n3 k3] 25)).trans (hb.mono (by simp)))
    clear hb
    obtain ⟨c0, c1, c2, c3, c4, c5, hlt⟩ := blk6 KB.out
    rw [HU.out]
    go_wp2
    go_ret
    exact ⟨_, rfl, by rw [HML.out]; exact Reads.nil _, KW.out⟩
end Go.Proofs.Ytahpecbcpgjinaa
namespace Go.Proofs.Ytahpecbcpgjinaa.configMembers
open Go.ChangeShapes Go.WideShapes Go.ChangeAt Go.RowKit

set_option maxRecDepth 100000 in
set_option maxHeartbeats 4000000 in
theorem walk (g v : Value) (M R : Int) (F : List Int) (L : List Cmd) (W : World) (hg : Gen W g M R F) (hr : ReadsC W v L) :
    Calls Try.prog 3 #[g, v] W (BoolMade W true) := by
  have HG := Lib.hid (And.intro hg hr)
  obtain ⟨vF, cl, vA, vO, rfl, hF, ⟨a2, n2, k2, rfl⟩, ⟨a3, n3, k3, rfl⟩⟩ := hg
  obtain ⟨a1, n1, k1, rfl⟩ := Slc.of_reads hF
  clear hF hr
  unfold gen at *
  by_cases b0 : largeB F L [] = true
  · have HLA := Lib.hid b0
    clear b0
    go_enter Try.func3, Try.ntmps3
    go_wp2_with fail
    refine (awake_any _).mono ?_
    rintro e w2 ⟨rfl, hb⟩
    have KB := Lib.hid ((Blk.new W 25 #[.int .i64 M, .int .i64 R, .slice a1 n1 k1, .int .i64 cl, .slice a2 n2 k2, .slice a3 n3 k3]).on hb)
    have KW := Lib.hid (((Below.refl W.heap.size W).alloc (Nat.le_refl _) (.cells #[.int .i64 M, .int .i64 R, .slice a1 n1 k1, .int .i64 cl, .slice a2 n2 k2, .slice a3 n3 k3] 25)).trans (hb.mono (by simp)))
    clear hb
    obtain ⟨c0, c1, c2, c3, c4, c5, hlt⟩ := blk6 KB.out
    go_wp2_with fail
    refine (large_any _ v (.slice none 0 0) M R F L [] _ (HG.out.1.on KW.out) (HG.out.2.on KW.out) (ReadsK.nil _)).mono ?_
    rintro e w3 ⟨rfl, hb⟩
    replace KB := Lib.hid (KB.out.on hb)
    replace KW := Lib.hid (KW.out.trans (hb.mono KW.out.size))
    clear hb
    clear c0 c1 c2 c3 c4 c5 hlt
    obtain ⟨c0, c1, c2, c3, c4, c5, hlt⟩ := blk6 KB.out
    rw [HLA.out]
    go_wp2
    go_ret
    exact ⟨rfl, KW.out⟩
  · have HLA := Lib.hid (Bool.eq_false_iff.2 b0)
    have hL : L.length ≤ 1000000 := by
      have := HLA.out
      unfold largeB at this
      simp only [Bool.or_eq_false_iff, decide_eq_false_iff_not] at this
      omega
    clear b0
    go_enter Try.func3, Try.ntmps3
    go_wp2_with fail
    refine (awake_any _).mono ?_
    rintro e w2 ⟨rfl, hb⟩
    have KB := Lib.hid ((Blk.new W 25 #[.int .i64 M, .int .i64 R, .slice a1 n1 k1, .int .i64 cl, .slice a2 n2 k2, .slice a3 n3 k3]).on hb)
    have KW := Lib.hid (((Below.refl W.heap.size W).alloc (Nat.le_refl _) (.cells #[.int .i64 M, .int .i64 R, .slice a1 n1 k1, .int .i64 cl, .slice a2 n2 k2, .slice a3 n3 k3] 25)).trans (hb.mono (by simp)))
    clear hb
    obtain ⟨c0, c1, c2, c3, c4, c5, hlt⟩ := blk6 KB.out
    go_wp2_with fail
    refine (large_any _ v (.slice none 0 0) M R F L [] _ (HG.out.1.on KW.out) (HG.out.2.on KW.out) (ReadsK.nil _)).mono ?_
    rintro e w3 ⟨rfl, hb⟩
    replace KB := Lib.hid (KB.out.on hb)
    replace KW := Lib.hid (KW.out.trans (hb.mono KW.out.size))
    clear hb
    clear c0 c1 c2 c3 c4 c5 hlt
    obtain ⟨c0, c1, c2, c3, c4, c5, hlt⟩ := blk6 KB.out
    rw [HLA.out]
    go_wp2_with fail
    refine region_left [.is (.agg #[.int .i64 M, .int .i64 R, .slice a1 n1 k1, .int .i64 cl, .slice a2 n2 k2, .slice a3 n3 k3]), .is v, leftReads vi (membersL M R F L), .is (.agg #[.int .i64 M, .int .i64 R, .slice a1 n1 k1, .int .i64 cl, .slice a2 n2 k2, .slice a3 n3 k3]), .is v, leftReads vi (membersL M R F L), .is (.bool true), .is (.bool true)] (by kernel_rfl) rfl (by kernel_rfl) (by kernel_rfl) (.cons ?q0 (.cons ?q1 (.cons ?q2 (.cons ?q3 (.cons ?q4 (.cons ?q5 (.cons ?q6 (.cons ?q7 .nil)))))))) ?qfin
    case q0 =>
      intro wq hbw st  K hK
      have KQ := KW.out.trans (hbw.mono KW.out.size)
      simp only [Act.put, List.setIfInBounds_toArray, List.set_cons_zero, List.set_cons_succ] at hK ⊢
      unfold opStep
      rw [if_pos (by rfl)]
      obtain ⟨d0, d1, d2, d3, d4, d5, dlt⟩ := blk6 (KB.out.on hbw)
      go_simp
      exact hK.out _ _ (Below.refl _ _) rfl _ rfl
    case q1 =>
      intro wq hbw st  K hK
      have KQ := KW.out.trans (hbw.mono KW.out.size)
      simp only [Act.put, List.setIfInBounds_toArray, List.set_cons_zero, List.set_cons_succ] at hK ⊢
      unfold opStep
      rw [if_pos (by rfl)]
      go_simp
      exact hK.out _ _ (Below.refl _ _) rfl _ rfl
    case q2 =>
      intro wq hbw st  K hK
      have KQ := KW.out.trans (hbw.mono KW.out.size)
      simp only [Act.put, List.setIfInBounds_toArray, List.set_cons_zero, List.set_cons_succ] at hK ⊢
      unfold opStep
      rw [if_pos (by rfl)]
      go_simp
      refine (members_any _ _ M R F L _ (HG.out.1.on KQ) (HG.out.2.on KQ)).mono ?_
      rintro e wz ⟨v, rfl, hr, hbz⟩
      go_simp
      exact hK.out _ _ hbz hr _ rfl
    case q3 =>
      intro wq hbw st  K hK
      have KQ := KW.out.trans (hbw.mono KW.out.size)
      simp only [Act.put, List.setIfInBounds_toArray, List.set_cons_zero, List.set_cons_succ] at hK ⊢
      unfold opStep
      rw [if_pos (by rfl)]
      obtain ⟨d0, d1, d2, d3, d4, d5, dlt⟩ := blk6 (KB.out.on hbw)
      go_simp
      exact hK.out _ _ (Below.refl _ _) rfl _ rfl
    case q4 =>
      intro wq hbw st  K hK
      have KQ := KW.out.trans (hbw.mono KW.out.size)
      simp only [Act.put, List.setIfInBounds_toArray, List.set_cons_zero, List.set_cons_succ] at hK ⊢
      unfold opStep
      rw [if_pos (by rfl)]
      go_simp
      exact hK.out _ _ (Below.refl _ _) rfl _ rfl
    case q5 =>
      intro wq hbw st x2 h2 K hK
      have KQ := KW.out.trans (hbw.mono KW.out.size)
      simp only [Act.put, List.setIfInBounds_toArray, List.set_cons_zero, List.set_cons_succ] at hK ⊢
      unfold opStep
      rw [if_pos (by rfl)]
      go_simp
      refine (rmembers_any _ _ M R F L _ (HG.out.1.on KQ) (HG.out.2.on KQ) hL).mono ?_
      rintro e wz ⟨v, rfl, hr, hbz⟩
      go_simp
      exact hK.out _ _ hbz hr _ rfl
    case q6 =>
      intro wq hbw st x2 h2 x5 h5 K hK
      have KQ := KW.out.trans (hbw.mono KW.out.size)
      simp only [Act.put, List.setIfInBounds_toArray, List.set_cons_zero, List.set_cons_succ] at hK ⊢
      unfold opStep
      rw [if_pos (by rfl)]
      go_simp
      refine (same31_yes _ _ _ _ h2 h5).mono ?_
      rintro e wz ⟨rfl, hbz⟩
      go_simp
      exact hK.out _ _ hbz rfl _ rfl
    case q7 =>
      intro wq hbw st x2 h2 x5 h5 K hK
      have KQ := KW.out.trans (hbw.mono KW.out.size)
      simp only [Act.put, List.setIfInBounds_toArray, List.set_cons_zero, List.set_cons_succ] at hK ⊢
      unfold opStep
      rw [if_pos (by rfl)]
      go_simp
      exact hK.out _ _ (Below.refl _ _) rfl _ rfl
    case qfin =>
      intro wq hbw
      intro x2 h2 x5 h5
      try simp only [FinAll]
      simp only [Act.put, List.setIfInBounds_toArray, List.set_cons_zero, List.set_cons_succ]
      replace KW := Lib.hid (KW.out.trans (hbw.mono KW.out.size))
      clear hbw
      go_wp2
      go_ret
      exact ⟨rfl, KW.out⟩

set_option maxRecDepth 100000 in
theorem lifted (os : Os) (started : os.Started) (H : Type) (enc : TypeId × Value → H) :
    ReturnsInHanded {} Try.checked os 3 .any (Rows.configMembersSpec.pre6 enc Try.prog Try.f3 Rows.configMembersRow.domain false) (Rows.configMembersSpec.post enc Try.prog Try.f3 false true false false) := by
  refine returnsInHanded_of_change (C := Try.checked) own started (by kernel_rfl) Try.func3
    (ChangeSpec.witness6 (enc := enc) (C := Try.checked) false ⟨#[], #[.agg #[.int .i64 0, .int .i64 0, .slice none 0 0, .int .i64 0, .slice none 0 0, .slice none 0 0], .slice none 0 0], []⟩ 8 (by kernel_rfl) (by kernel_rfl) (by kernel_rfl) (by kernel_rfl)) ?_
  intro W base args ds gs before hval0 hW hcnd _
  have hval : ∀ (j : Nat) t v, Try.f3.params[j]? = some t → args[j]? = some v → Value.okWide Try.prog W .any base t v := hval0
  have hW' := hW
  obtain ⟨p, q, hA0, hV, rfl, hfz, hnd⟩ := hW
  have hA : DataW.TrodAll enc Try.prog W 0 (fun _ => true) true Try.f3.params.toList args.toList ds p := hA0
  rw [Try.params3] at hA hval
  obtain ⟨v0, vs0, d0, ds0, p0, q0, hargs, rfl, rfl, t0, r0⟩ := trodAll_cons hA
  obtain ⟨v1, vs1, d1, ds1, p1, q1, rfl, rfl, rfl, t1, r1⟩ := trodAll_cons r0
  obtain ⟨rfl, rfl, rfl⟩ := trodAll_nil r1
  obtain rfl : args = #[v0, v1] := by cases args; simp_all
  obtain ⟨rfl, rfl⟩ := trodVars_none hV
  obtain ⟨m0, r0, f0, h0⟩ := open_gen (hval 0 25 v0 rfl rfl) t0
  obtain ⟨x1, h1⟩ := open_cmds (hval 1 26 v1 rfl rfl) t1
  refine (walk v0 v1 m0 r0 f0 x1 W h0 h1).mono fun e W' ⟨he, hb⟩ => ?_
  subst he
  exact ⟨_, rfl, law_post laidOut rfl (fun _ _ => rfl) (by kernel_rfl) Try.underlying4 (by rw [Try.params3]; exact fun t ht => by simp at ht; rcases ht with  rfl | rfl ; all_goals exact ⟨by kernel_rfl, of_decide_eq_true (by kernel_rfl)⟩) hW' hb⟩

theorem over : Rows.configMembersRow.holds Try.pinned (OpenSpec.ofChange Rows.configMembersSpec) :=
  OpenClaim.holds_of_wide 3 Try.f3 rfl rfl rfl rfl rfl rfl rfl ⟨rfl, rfl, rfl, rfl, rfl⟩ rfl rfl rfl rfl rfl (by kernel_rfl) Try.func3 (by kernel_rfl)
    (of_decide_eq_true (by kernel_rfl)) (by unfold Func.isWrapper; first | (rw [if_pos (by decide +kernel)]; kernel_rfl) | (rw [if_neg (by decide +kernel)]; exact ⟨rfl, rfl⟩))
    (fun os started H enc _ => lifted os started H enc)

theorem proved : Rows.ConfigMembersSaid := over

end Go.Proofs.Ytahpecbcpgjinaa.configMembers
