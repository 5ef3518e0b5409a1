/-
  ConfigTolerates: for every genesis, all lists and every set the law returns true, and what came in reads behind the call as before. No condition.
-/
import Derived.Test.YtahpecbcpgjinaaDd
namespace Go.Proofs.Ytahpecbcpgjinaa.configTolerates
open Go.ChangeShapes Go.WideShapes Go.ChangeAt Go.RowKit

theorem all_others {n : Nat} (h : n ≤ 12) (ys : List Int) : partL (upTo (fun _ => true) n) ys false = others n ys := by
  unfold partL others upTo
  rw [show (max 0 (min (n : Int) 12)).toNat = n by omega, List.filter_filter]
  exact List.filter_congr fun r _ => by cases decide (r ∈ ys) <;> rfl

set_option maxRecDepth 100000 in
set_option maxHeartbeats 4000000 in
theorem walk (g vB vC vy : Value) (M R : Int) (F ys : List Int) (B C : List Cmd) (W : World) (hg : Gen W g M R F) (hb : ReadsC W vB B) (hc : ReadsC W vC C) (hy : Reads vi W vy ys) :
    Calls Try.prog 11 #[g, vB, vC, vy] W (BoolMade W true) := by
  obtain ⟨i0, hinf, hz0, hz1, hz2⟩ := info_parts Try.infoInt
  have HI := Lib.hid (And.intro hinf (And.intro hz0 (And.intro hz1 hz2)))
  clear hinf hz0 hz1 hz2
  have HG := Lib.hid (And.intro hg (And.intro hb (And.intro hc hy)))
  obtain ⟨vF, cl, vA, vO, rfl, hF, ⟨a2, n2, k2, rfl⟩, ⟨a3, n3, k3, rfl⟩⟩ := hg
  obtain ⟨a1, n1, k1, rfl⟩ := Slc.of_reads hF
  obtain ⟨aoy, cy, rfl, hy1, hy2, _, _⟩ := hy
  unfold maxLen at hy2
  clear hF hb hc
  unfold gen at *
  by_cases b0 : largeB F B C = true
  · have HLA := Lib.hid b0
    clear b0
    go_enter Try.func11, Try.ntmps11
    go_wp2_with fail
    refine (awake_any _).mono ?_
    rintro e w2 ⟨rfl, hb⟩
    have KB := Lib.hid ((Blk.new W 25 #[.int .i64 M, .int .i64 R, .slice a1 n1 k1, .int .i64 cl, .slice a2 n2 k2, .slice a3 n3 k3]).on hb)
    have KW := Lib.hid (((Below.refl W.heap.size W).alloc (Nat.le_refl _) (.cells #[.int .i64 M, .int .i64 R, .slice a1 n1 k1, .int .i64 cl, .slice a2 n2 k2, .slice a3 n3 k3] 25)).trans (hb.mono (by simp)))
    clear hb
    obtain ⟨c0, c1, c2, c3, c4, c5, hlt⟩ := blk6 KB.out
    go_wp2_with fail
    refine (large_any _ vB vC M _ F B C _ (HG.out.1.on KW.out) (HG.out.2.1.on KW.out) (HG.out.2.2.1.on KW.out)).mono ?_
    rintro e w3 ⟨rfl, hb⟩
    replace KB := Lib.hid (KB.out.on hb)
    replace KW := Lib.hid (KW.out.trans (hb.mono KW.out.size))
    clear hb
    clear c0 c1 c2 c3 c4 c5 hlt
    obtain ⟨c0, c1, c2, c3, c4, c5, hlt⟩ := blk6 KB.out
    rw [HLA.out]
    go_wp2
    go_ret
    exact ⟨rfl, KW.out⟩
  · have HLA := Lib.hid (Bool.eq_false_iff.2 b0)
    clear b0
    by_cases b1 : 40 < ys.length
    · have e1 : decide ((40 : Int) < ys.length) = true := decide_eq_true (by omega)
      go_enter Try.func11, Try.ntmps11
      go_wp2_with fail
      refine (awake_any _).mono ?_
      rintro e w2 ⟨rfl, hb⟩
      have KB := Lib.hid ((Blk.new W 25 #[.int .i64 M, .int .i64 R, .slice a1 n1 k1, .int .i64 cl, .slice a2 n2 k2, .slice a3 n3 k3]).on hb)
      have KW := Lib.hid (((Below.refl W.heap.size W).alloc (Nat.le_refl _) (.cells #[.int .i64 M, .int .i64 R, .slice a1 n1 k1, .int .i64 cl, .slice a2 n2 k2, .slice a3 n3 k3] 25)).trans (hb.mono (by simp)))
      clear hb
      obtain ⟨c0, c1, c2, c3, c4, c5, hlt⟩ := blk6 KB.out
      go_wp2_with fail
      refine (large_any _ vB vC M _ F B C _ (HG.out.1.on KW.out) (HG.out.2.1.on KW.out) (HG.out.2.2.1.on KW.out)).mono ?_
      rintro e w3 ⟨rfl, hb⟩
      replace KB := Lib.hid (KB.out.on hb)
      replace KW := Lib.hid (KW.out.trans (hb.mono KW.out.size))
      clear hb
      clear c0 c1 c2 c3 c4 c5 hlt
      obtain ⟨c0, c1, c2, c3, c4, c5, hlt⟩ := blk6 KB.out
      rw [HLA.out]
      go_wp2
      go_ret
      exact ⟨rfl, KW.out⟩
    · have e1 : decide ((40 : Int) < ys.length) = false := decide_eq_false (by omega)
      by_cases b2 : usableB M R F = true
      · obtain ⟨_, ⟨hR1, hR2⟩, _, _, _⟩ := usable_parts b2
        obtain ⟨n, rfl⟩ : ∃ n : Nat, R = n := ⟨R.toNat, by omega⟩
        have hn12 : n ≤ 12 := by omega
        have HU := Lib.hid b2
        clear b2 hR1 hR2
        go_enter Try.func11, Try.ntmps11
        go_wp2_with fail
        refine (awake_any _).mono ?_
        rintro e w2 ⟨rfl, hb⟩
        have KB := Lib.hid ((Blk.new W 25 #[.int .i64 M, .int .i64 n, .slice a1 n1 k1, .int .i64 cl, .slice a2 n2 k2, .slice a3 n3 k3]).on hb)
        have KW := Lib.hid (((Below.refl W.heap.size W).alloc (Nat.le_refl _) (.cells #[.int .i64 M, .int .i64 n, .slice a1 n1 k1, .int .i64 cl, .slice a2 n2 k2, .slice a3 n3 k3] 25)).trans (hb.mono (by simp)))
        clear hb
        obtain ⟨c0, c1, c2, c3, c4, c5, hlt⟩ := blk6 KB.out
        go_wp2_with fail
        refine (large_any _ vB vC M _ F B C _ (HG.out.1.on KW.out) (HG.out.2.1.on KW.out) (HG.out.2.2.1.on KW.out)).mono ?_
        rintro e w3 ⟨rfl, hb⟩
        replace KB := Lib.hid (KB.out.on hb)
        replace KW := Lib.hid (KW.out.trans (hb.mono KW.out.size))
        clear hb
        clear c0 c1 c2 c3 c4 c5 hlt
        obtain ⟨c0, c1, c2, c3, c4, c5, hlt⟩ := blk6 KB.out
        rw [HLA.out]
        go_wp2_with fail
        refine (rusable_any _ M _ F _ (HG.out.1.on KW.out)).mono ?_
        rintro e w4 ⟨rfl, hb⟩
        replace KB := Lib.hid (KB.out.on hb)
        replace KW := Lib.hid (KW.out.trans (hb.mono KW.out.size))
        clear hb
        clear c0 c1 c2 c3 c4 c5 hlt
        obtain ⟨c0, c1, c2, c3, c4, c5, hlt⟩ := blk6 KB.out
        rw [HU.out]
        go_wp2
        clear c0 c1 c2 c3 c4 c5 hlt
        obtain ⟨wa, hwa⟩ : ∃ wa, wa = w4 := ⟨_, rfl⟩
        rw [← hwa] at KB KW ⊢
        clear hwa
        go_loopg [9, 10] n (fun m o i wr => ∃ k : Nat, m + k = n ∧ i = .int .i64 k ∧ wr.ownsRow wa.heap.size 3 1 o (upTo (fun _ => true) k).length ((upTo (fun _ => true) k).map vi) ∧ Below wa.heap.size wa wr)
        case atStart => exact ⟨0, by omega, rfl, by simp [upTo, World.ownsRow], Below.refl _ _⟩
        case round =>
          obtain ⟨k, hmk, rfl, hown, hbel⟩ := hrel
          have HM := Lib.hid hmk
          have hk : k ≤ n := by omega
          have HOO := Lib.hid (And.intro hown hbel)
          replace KB := Lib.hid (KB.out.on hbel)
          replace KW := Lib.hid (KW.out.trans (hbel.mono KW.out.size))
          obtain ⟨c0, c1, c2, c3, c4, c5, hlt⟩ := blk6 KB.out
          have hol := upTo_len (fun _ => true) k
          have hyes := Lib.hid (@upTo_yes (fun _ => true) k rfl)
          clear hmk hown hbel
          by_cases hkn : k < n
          · generalize upTo (fun _ => true) k = out at *
            go_wp2_with (at_builtin; refine wpList_append_own _ rfl _ _ 22 rfl wa.heap.size 3 i0 (.int .i64 0) 1 8 Try.underlying22 HI.out.1 HI.out.2.1 HI.out.2.2.1 HI.out.2.2.2 rfl (by decide) _ _ _ rfl (by exact HOO.out.1.alloc _) ⟨_, 0, none⟩ 1 1 [.int .i64 k] rfl rfl (cell_one_new _ _ _) (by intro u hu; simp at hu; subst hu; rfl) (by unfold maxLen; omega) (by omega) (by have := HOO.out.2.size; simp; omega) ?_)
            intro v5 w5 hown5 hgr5 _
            have H5 := Lib.hid (append_one (x := (k : Int)) HOO.out.1 HOO.out.2 (by exact hgr5) hown5)
            clear hown5 hgr5
            go_wp2
            go_roundg (n - (k + 1))
            case measure => have := HM.out; omega
            case rel => exact ⟨k + 1, by omega, by go_num, by rw [hyes.out]; exact H5.out.1, H5.out.2⟩
          · have hkk : k = n := by omega
            subst hkk
            have HR := Lib.hid (Reads.of_owns HOO.out.1)
            have HPO := Lib.hid (all_others hn12 ys)
            have hol2 : (upTo (fun _ => true) k).length ≤ 1000000 := by omega
            clear hyes
            generalize upTo (fun _ => true) k = allr at *
            go_wp2
            refine region_left [.is (.agg #[.int .i64 M, .int .i64 k, .slice a1 n1 k1, .int .i64 cl, .slice a2 n2 k2, .slice a3 n3 k3]), .is vB, .is vC, .is (.slice aoy ys.length cy), .is (.bool (quorateB M k F B C (others k ys))), .is (.agg #[.int .i64 M, .int .i64 k, .slice a1 n1 k1, .int .i64 cl, .slice a2 n2 k2, .slice a3 n3 k3]), .is vB, .is vC, .is u9, .is (.slice aoy ys.length cy), leftReads vi (others k ys), .is (.bool (quorateB M k F B C (others k ys))), .is (.bool true), .is (.bool true)] (by kernel_rfl) rfl (by kernel_rfl) (by kernel_rfl) (.cons ?q0 (.cons ?q1 (.cons ?q2 (.cons ?q3 (.cons ?q4 (.cons ?q5 (.cons ?q6 (.cons ?q7 (.cons ?q8 (.cons ?q9 (.cons ?q10 (.cons ?q11 (.cons ?q12 (.cons ?q13 .nil)))))))))))))) ?qfin
            case q0 =>
              intro wq hbw st  K hK
              have KQ := KW.out.trans (hbw.mono KW.out.size)
              simp only [Act.put, List.setIfInBounds_toArray, List.set_cons_zero, List.set_cons_succ] at hK ⊢
              unfold opStep
              rw [if_pos (by rfl)]
              obtain ⟨d0, d1, d2, d3, d4, d5, dlt⟩ := blk6 (KB.out.on hbw)
              go_simp
              exact hK.out _ _ (Below.refl _ _) rfl _ rfl
            case q1 =>
              intro wq hbw st  K hK
              have KQ := KW.out.trans (hbw.mono KW.out.size)
              simp only [Act.put, List.setIfInBounds_toArray, List.set_cons_zero, List.set_cons_succ] at hK ⊢
              unfold opStep
              rw [if_pos (by rfl)]
              go_simp
              exact hK.out _ _ (Below.refl _ _) rfl _ rfl
            case q2 =>
              intro wq hbw st  K hK
              have KQ := KW.out.trans (hbw.mono KW.out.size)
              simp only [Act.put, List.setIfInBounds_toArray, List.set_cons_zero, List.set_cons_succ] at hK ⊢
              unfold opStep
              rw [if_pos (by rfl)]
              go_simp
              exact hK.out _ _ (Below.refl _ _) rfl _ rfl
            case q3 =>
              intro wq hbw st  K hK
              have KQ := KW.out.trans (hbw.mono KW.out.size)
              simp only [Act.put, List.setIfInBounds_toArray, List.set_cons_zero, List.set_cons_succ] at hK ⊢
              unfold opStep
              rw [if_pos (by rfl)]
              go_simp
              exact hK.out _ _ (Below.refl _ _) rfl _ rfl
            case q4 =>
              intro wq hbw st  K hK
              have KQ := KW.out.trans (hbw.mono KW.out.size)
              simp only [Act.put, List.setIfInBounds_toArray, List.set_cons_zero, List.set_cons_succ] at hK ⊢
              unfold opStep
              rw [if_pos (by rfl)]
              go_simp
              refine (tolerates_any _ vB vC _ M k F B C ys _ (HG.out.1.on KQ) (HG.out.2.1.on KQ) (HG.out.2.2.1.on KQ) (HG.out.2.2.2.keep KQ)).mono ?_
              rintro e wz ⟨rfl, hbz⟩
              go_simp
              exact hK.out _ _ hbz rfl _ rfl
            case q5 =>
              intro wq hbw st  K hK
              have KQ := KW.out.trans (hbw.mono KW.out.size)
              simp only [Act.put, List.setIfInBounds_toArray, List.set_cons_zero, List.set_cons_succ] at hK ⊢
              unfold opStep
              rw [if_pos (by rfl)]
              obtain ⟨d0, d1, d2, d3, d4, d5, dlt⟩ := blk6 (KB.out.on hbw)
              go_simp
              exact hK.out _ _ (Below.refl _ _) rfl _ rfl
            case q6 =>
              intro wq hbw st  K hK
              have KQ := KW.out.trans (hbw.mono KW.out.size)
              simp only [Act.put, List.setIfInBounds_toArray, List.set_cons_zero, List.set_cons_succ] at hK ⊢
              unfold opStep
              rw [if_pos (by rfl)]
              go_simp
              exact hK.out _ _ (Below.refl _ _) rfl _ rfl
            case q7 =>
              intro wq hbw st  K hK
              have KQ := KW.out.trans (hbw.mono KW.out.size)
              simp only [Act.put, List.setIfInBounds_toArray, List.set_cons_zero, List.set_cons_succ] at hK ⊢
              unfold opStep
              rw [if_pos (by rfl)]
              go_simp
              exact hK.out _ _ (Below.refl _ _) rfl _ rfl
            case q8 =>
              intro wq hbw st  K hK
              have KQ := KW.out.trans (hbw.mono KW.out.size)
              simp only [Act.put, List.setIfInBounds_toArray, List.set_cons_zero, List.set_cons_succ] at hK ⊢
              unfold opStep
              rw [if_pos (by rfl)]
              go_simp
              exact hK.out _ _ (Below.refl _ _) rfl _ rfl
            case q9 =>
              intro wq hbw st  K hK
              have KQ := KW.out.trans (hbw.mono KW.out.size)
              simp only [Act.put, List.setIfInBounds_toArray, List.set_cons_zero, List.set_cons_succ] at hK ⊢
              unfold opStep
              rw [if_pos (by rfl)]
              go_simp
              exact hK.out _ _ (Below.refl _ _) rfl _ rfl
            case q10 =>
              intro wq hbw st  K hK
              have KQ := KW.out.trans (hbw.mono KW.out.size)
              simp only [Act.put, List.setIfInBounds_toArray, List.set_cons_zero, List.set_cons_succ] at hK ⊢
              unfold opStep
              rw [if_pos (by rfl)]
              go_simp
              refine (part_any _ _ allr ys false _ (HR.out.keep hbw) (HG.out.2.2.2.keep KQ) hol2).mono ?_
              rintro e wz ⟨v, rfl, hr, hbz⟩
              rw [HPO.out] at hr
              go_simp
              exact hK.out _ _ hbz hr _ rfl
            case q11 =>
              intro wq hbw st x10 h10 K hK
              have KQ := KW.out.trans (hbw.mono KW.out.size)
              simp only [Act.put, List.setIfInBounds_toArray, List.set_cons_zero, List.set_cons_succ] at hK ⊢
              unfold opStep
              rw [if_pos (by rfl)]
              go_simp
              refine (quorate_any _ vB vC _ M k F B C (others k ys) _ (HG.out.1.on KQ) (HG.out.2.1.on KQ) (HG.out.2.2.1.on KQ) h10).mono ?_
              rintro e wz ⟨rfl, hbz⟩
              go_simp
              exact hK.out _ _ hbz rfl _ rfl
            case q12 =>
              intro wq hbw st  K hK
              have KQ := KW.out.trans (hbw.mono KW.out.size)
              simp only [Act.put, List.setIfInBounds_toArray, List.set_cons_zero, List.set_cons_succ] at hK ⊢
              unfold opStep
              rw [if_pos (by rfl)]
              generalize quorateB M k F B C (others k ys) = qq at *
              go_simp
              exact hK.out _ _ (Below.refl _ _) rfl _ rfl
            case q13 =>
              intro wq hbw st x10 h10 K hK
              have KQ := KW.out.trans (hbw.mono KW.out.size)
              simp only [Act.put, List.setIfInBounds_toArray, List.set_cons_zero, List.set_cons_succ] at hK ⊢
              unfold opStep
              rw [if_pos (by rfl)]
              go_simp
              exact hK.out _ _ (Below.refl _ _) rfl _ rfl
            case qfin =>
              intro wq hbw
              intro x10 h10
              try simp only [FinAll]
              simp only [Act.put, List.setIfInBounds_toArray, List.set_cons_zero, List.set_cons_succ]
              replace KW := Lib.hid (KW.out.trans (hbw.mono KW.out.size))
              clear hbw
              go_wp2
              go_ret
              exact ⟨rfl, KW.out⟩
      · have HU := Lib.hid (Bool.eq_false_iff.2 b2)
        clear b2
        go_enter Try.func11, Try.ntmps11
        go_wp2_with fail
        refine (awake_any _).mono ?_
        rintro e w2 ⟨rfl, hb⟩
        have KB := Lib.hid ((Blk.new W 25 #[.int .i64 M, .int .i64 R, .slice a1 n1 k1, .int .i64 cl, .slice a2 n2 k2, .slice a3 n3 k3]).on hb)
        have KW := Lib.hid (((Below.refl W.heap.size W).alloc (Nat.le_refl _) (.cells #[.int .i64 M, .int .i64 R, .slice a1 n1 k1, .int .i64 cl, .slice a2 n2 k2, .slice a3 n3 k3] 25)).trans (hb.mono (by simp)))
        clear hb
        obtain ⟨c0, c1, c2, c3, c4, c5, hlt⟩ := blk6 KB.out
        go_wp2_with fail
        refine (large_any _ vB vC M _ F B C _ (HG.out.1.on KW.out) (HG.out.2.1.on KW.out) (HG.out.2.2.1.on KW.out)).mono ?_
        rintro e w3 ⟨rfl, hb⟩
        replace KB := Lib.hid (KB.out.on hb)
        replace KW := Lib.hid (KW.out.trans (hb.mono KW.out.size))
        clear hb
        clear c0 c1 c2 c3 c4 c5 hlt
        obtain ⟨c0, c1, c2, c3, c4, c5, hlt⟩ := blk6 KB.out
        rw [HLA.out]
        go_wp2_with fail
        refine (rusable_any _ M _ F _ (HG.out.1.on KW.out)).mono ?_
        rintro e w4 ⟨rfl, hb⟩
        replace KB := Lib.hid (KB.out.on hb)
        replace KW := Lib.hid (KW.out.trans (hb.mono KW.out.size))
        clear hb
        clear c0 c1 c2 c3 c4 c5 hlt
        obtain ⟨c0, c1, c2, c3, c4, c5, hlt⟩ := blk6 KB.out
        rw [HU.out]
        go_wp2
        go_ret
        exact ⟨rfl, KW.out⟩

set_option maxRecDepth 100000 in
theorem lifted (os : Os) (started : os.Started) (H : Type) (enc : TypeId × Value → H) :
    ReturnsInHanded {} Try.checked os 11 .any (Rows.configToleratesSpec.pre6 enc Try.prog Try.f11 Rows.configToleratesRow.domain false) (Rows.configToleratesSpec.post enc Try.prog Try.f11 false true false false) := by
  refine returnsInHanded_of_change (C := Try.checked) own started (by kernel_rfl) Try.func11
    (ChangeSpec.witness6 (enc := enc) (C := Try.checked) false ⟨#[], #[.agg #[.int .i64 0, .int .i64 0, .slice none 0 0, .int .i64 0, .slice none 0 0, .slice none 0 0], .slice none 0 0, .slice none 0 0, .slice none 0 0], []⟩ 8 (by kernel_rfl) (by kernel_rfl) (by kernel_rfl) (by kernel_rfl)) ?_
  intro W base args ds gs before hval0 hW hcnd _
  have hval : ∀ (j : Nat) t v, Try.f11.params[j]? = some t → args[j]? = some v → Value.okWide Try.prog W .any base t v := hval0
  have hW' := hW
  obtain ⟨p, q, hA0, hV, rfl, hfz, hnd⟩ := hW
  have hA : DataW.TrodAll enc Try.prog W 0 (fun _ => true) true Try.f11.params.toList args.toList ds p := hA0
  rw [Try.params11] at hA hval
  obtain ⟨v0, vs0, d0, ds0, p0, q0, hargs, rfl, rfl, t0, r0⟩ := trodAll_cons hA
  obtain ⟨v1, vs1, d1, ds1, p1, q1, rfl, rfl, rfl, t1, r1⟩ := trodAll_cons r0
  obtain ⟨v2, vs2, d2, ds2, p2, q2, rfl, rfl, rfl, t2, r2⟩ := trodAll_cons r1
  obtain ⟨v3, vs3, d3, ds3, p3, q3, rfl, rfl, rfl, t3, r3⟩ := trodAll_cons r2
  obtain ⟨rfl, rfl, rfl⟩ := trodAll_nil r3
  obtain rfl : args = #[v0, v1, v2, v3] := by cases args; simp_all
  obtain ⟨rfl, rfl⟩ := trodVars_none hV
  obtain ⟨m0, r0, f0, h0⟩ := open_gen (hval 0 25 v0 rfl rfl) t0
  obtain ⟨x1, h1⟩ := open_cmds (hval 1 26 v1 rfl rfl) t1
  obtain ⟨x2, h2⟩ := open_cmds (hval 2 26 v2 rfl rfl) t2
  obtain ⟨x3, h3⟩ := open_ilist (hval 3 22 v3 rfl rfl) t3
  refine (walk v0 v1 v2 v3 m0 r0 f0 x3 x1 x2 W h0 h1 h2 h3).mono fun e W' ⟨he, hb⟩ => ?_
  subst he
  exact ⟨_, rfl, law_post laidOut rfl (fun _ _ => rfl) (by kernel_rfl) Try.underlying4 (by rw [Try.params11]; exact fun t ht => by simp at ht; rcases ht with  rfl | rfl | rfl ; all_goals exact ⟨by kernel_rfl, of_decide_eq_true (by kernel_rfl)⟩) hW' hb⟩

theorem over : Rows.configToleratesRow.holds Try.pinned (OpenSpec.ofChange Rows.configToleratesSpec) :=
  OpenClaim.holds_of_wide 11 Try.f11 rfl rfl rfl rfl rfl rfl rfl ⟨rfl, rfl, rfl, rfl, rfl⟩ rfl rfl rfl rfl rfl (by kernel_rfl) Try.func11 (by kernel_rfl)
    (of_decide_eq_true (by kernel_rfl)) (by unfold Func.isWrapper; first | (rw [if_pos (by decide +kernel)]; kernel_rfl) | (rw [if_neg (by decide +kernel)]; exact ⟨rfl, rfl⟩))
    (fun os started H enc _ => lifted os started H enc)

theorem proved : Rows.ConfigToleratesSaid := over

end Go.Proofs.Ytahpecbcpgjinaa.configTolerates
