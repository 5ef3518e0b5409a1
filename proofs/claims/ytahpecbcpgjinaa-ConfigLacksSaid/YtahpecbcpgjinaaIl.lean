/-
  Chapter 39: Lacking of the reference.
-/
import Derived.Test.YtahpecbcpgjinaaIj
namespace Go.Proofs.Ytahpecbcpgjinaa
open Go.RowKit

theorem lackB_quo {M R : Int} {F x : List Int} {B C : List Cmd} (h : okB M R F B C = true) : lackB M R F B C x = !quoE M R F B C x := by unfold lackB; rw [h, Bool.true_and, quo_eq]
theorem lackB_no {M R : Int} {F x : List Int} {B C : List Cmd} (h : okB M R F B C = false) : lackB M R F B C x = false := by unfold lackB; rw [h]; rfl
theorem lack_yes {w w' : World} {v : Value} {M R : Int} {F : List Int} {B C : List Cmd} {x : List Int} (h : lackB M R F B C x = true) (hr : Reads vi w' v (lackL M R F B C x)) (hb : Below w.heap.size w w') : LackMade w M R F B C x (.returned (.tuple #[v, .bool true])) w' :=
  ⟨v, by rw [h], hr, hb⟩
theorem has39_is {v : Value} (xs : List Int) (r : Int) (w : World) {b : Bool} (hr : Reads vi w v xs) (h : decide (r ∈ xs) = b) :
    Calls Try.prog 44 #[v, .int .i64 r] w fun e w' => e = .returned (.bool b) ∧ w = w' := h ▸ has39_any v xs r w hr

set_option maxRecDepth 100000 in
set_option maxHeartbeats 8000000 in
theorem rlacking_any (g vB vC z : Value) (M R : Int) (F x : List Int) (B C : List Cmd) (W : World) (hg : Gen W g M R F) (hb : ReadsC W vB B) (hc : ReadsC W vC C) (hz : Reads vi W z x) (hB : B.length ≤ 40) (hC : C.length ≤ 40) (h7 : (confL R C).length ≤ (confL R B).length + 7) :
    Calls Try.prog 29 #[g, vB, vC, z] W (LackMade W M R F B C x) := by
  obtain ⟨i0, hinf, hz0, hz1, hz2⟩ := info_parts Try.infoInt
  have HI := Lib.hid (And.intro hinf (And.intro hz0 (And.intro hz1 hz2)))
  clear hinf hz0 hz1 hz2
  have HG := Lib.hid (And.intro hg (And.intro hb (And.intro hc hz)))
  obtain ⟨vF, cl, vA, vO, rfl, hF, ⟨a2, n2, k2, rfl⟩, ⟨a3, n3, k3, rfl⟩⟩ := hg
  obtain ⟨a1, n1, k1, rfl⟩ := Slc.of_reads hF
  obtain ⟨aox, cx, rfl, hx1, hx2, _, _⟩ := hz
  unfold maxLen at hx2
  have HF := Lib.hid hF
  clear hF hb hc
  unfold gen at *
  by_cases hok : okB M R F B C = true
  · have HOK := Lib.hid hok
    obtain ⟨hM12, ⟨hR1, hR2⟩, hF0, _, hFb⟩ := usable_parts (ok_parts hok).1
    have hE128 := allE_len hok h7
    have HDL := Lib.hid (allE_dlen (R := R) hB hC)
    obtain ⟨n, rfl⟩ : ∃ n : Nat, R = n := ⟨R.toNat, by omega⟩
    have hn12 : n ≤ 12 := by omega
    have HUS := Lib.hid (And.intro hR1 (And.intro hM12 (And.intro hF0 hFb)))
    have HEE : Hid (∃ E, E = allE (n : Int) B C) := Lib.hid ⟨_, rfl⟩
    clear hok hR1 hR2 hM12 hF0 hFb
    go_enter Try.func29, Try.ntmps29
    go_wp2_with fail
    refine (rinterval_any _ vB vC M n F B C _ (HG.out.1.on ((Below.refl _ _).alloc (Nat.le_refl _) _)) (HG.out.2.1.on ((Below.refl _ _).alloc (Nat.le_refl _) _)) (HG.out.2.2.1.on ((Below.refl _ _).alloc (Nat.le_refl _) _)) hB hC h7).mono ?_
    rintro e w2 ⟨vI, rfl, hr, hb⟩
    have KB := Lib.hid ((Blk.new W 25 #[.int .i64 M, .int .i64 n, .slice a1 n1 k1, .int .i64 cl, .slice a2 n2 k2, .slice a3 n3 k3]).on hb)
    have KW := Lib.hid (((Below.refl W.heap.size W).alloc (Nat.le_refl _) (.cells #[.int .i64 M, .int .i64 n, .slice a1 n1 k1, .int .i64 cl, .slice a2 n2 k2, .slice a3 n3 k3] 25)).trans (hb.mono (by simp)))
    clear hb
    obtain ⟨c0, c1, c2, c3, c4, c5, hlt⟩ := blk6 KB.out
    rw [HOK.out]
    have HE := Lib.hid (hr HOK.out)
    clear hr
    generalize allE (n : Int) B C = E at *
    obtain ⟨aoE, cE, rfl, hE1, hE2, -, -⟩ := HE.out
    unfold maxLen at hE2
    by_cases hq : quoE M (n : Int) F B C x = true
    · have HQQ := Lib.hid hq
      have HLK : Hid (lackB M (n : Int) F B C x = false) := Lib.hid (by rw [lackB_quo HOK.out, hq]; rfl)
      clear hq
      go_wp2_with fail
      refine (bool_as HQQ.out (rquorate_any _ vB vC _ M (n : Int) F x B C _ (HG.out.1.on KW.out) (HG.out.2.1.on KW.out) (HG.out.2.2.1.on KW.out) (HG.out.2.2.2.keep KW.out) hB hC h7)).mono ?_
      rintro e w3 ⟨rfl, hb⟩
      replace KB := Lib.hid (KB.out.on hb)
      replace KW := Lib.hid (KW.out.trans (hb.mono KW.out.size))
      clear hb
      clear c0 c1 c2 c3 c4 c5 hlt
      obtain ⟨c0, c1, c2, c3, c4, c5, hlt⟩ := blk6 KB.out
      go_wp2
      go_ret2
      exact lack_no HLK.out KW.out
    · have HQQ := Lib.hid (Bool.eq_false_iff.2 hq)
      have HLK : Hid (lackB M (n : Int) F B C x = true) := Lib.hid (by rw [lackB_quo HOK.out, Bool.eq_false_iff.2 hq]; rfl)
      have HLL : Hid (lackL M (n : Int) F B C x = orFirst F (upTo (lackP M (n : Int) F B C x) n)) := Lib.hid (by unfold lackL; rw [if_pos HLK.out, ← lack_worst HOK.out]; rfl)
      clear hq
      go_wp2_with fail
      refine (bool_as HQQ.out (rquorate_any _ vB vC _ M (n : Int) F x B C _ (HG.out.1.on KW.out) (HG.out.2.1.on KW.out) (HG.out.2.2.1.on KW.out) (HG.out.2.2.2.keep KW.out) hB hC h7)).mono ?_
      rintro e w3 ⟨rfl, hb⟩
      replace KB := Lib.hid (KB.out.on hb)
      replace KW := Lib.hid (KW.out.trans (hb.mono KW.out.size))
      clear hb
      clear c0 c1 c2 c3 c4 c5 hlt
      obtain ⟨c0, c1, c2, c3, c4, c5, hlt⟩ := blk6 KB.out
      go_wp2
      refine region_left [.is (.agg #[.int .i64 M, .int .i64 n, .slice a1 n1 k1, .int .i64 cl, .slice a2 n2 k2, .slice a3 n3 k3]), .is vB, .is vC, leftReads vi (mustL M (n : Int) F B C), .is (.agg #[.int .i64 M, .int .i64 n, .slice a1 n1 k1, .int .i64 cl, .slice a2 n2 k2, .slice a3 n3 k3]), .is vB, .is vC, leftReads vi (mayL M (n : Int) F B C), leftReads vi (mustL M (n : Int) F B C), leftReads vi (mayL M (n : Int) F B C)] (by kernel_rfl) rfl (by kernel_rfl) (by kernel_rfl) (.cons ?q0 (.cons ?q1 (.cons ?q2 (.cons ?q3 (.cons ?q4 (.cons ?q5 (.cons ?q6 (.cons ?q7 (.cons ?q8 (.cons ?q9 .nil)))))))))) ?qfin
      case q0 =>
        intro wq hbw st  K hK
        have KQ := KW.out.trans (hbw.mono KW.out.size)
        simp only [Act.put, List.setIfInBounds_toArray, List.set_cons_zero, List.set_cons_succ] at hK ⊢
        unfold opStep
        rw [if_pos (by rfl)]
        obtain ⟨d0, d1, d2, d3, d4, d5, dlt⟩ := blk6 (KB.out.on hbw)
        go_simp
        exact hK.out _ _ (Below.refl _ _) rfl _ rfl
      case q1 =>
        intro wq hbw st  K hK
        have KQ := KW.out.trans (hbw.mono KW.out.size)
        simp only [Act.put, List.setIfInBounds_toArray, List.set_cons_zero, List.set_cons_succ] at hK ⊢
        unfold opStep
        rw [if_pos (by rfl)]
        go_simp
        exact hK.out _ _ (Below.refl _ _) rfl _ rfl
      case q2 =>
        intro wq hbw st  K hK
        have KQ := KW.out.trans (hbw.mono KW.out.size)
        simp only [Act.put, List.setIfInBounds_toArray, List.set_cons_zero, List.set_cons_succ] at hK ⊢
        unfold opStep
        rw [if_pos (by rfl)]
        go_simp
        exact hK.out _ _ (Below.refl _ _) rfl _ rfl
      case q3 =>
        intro wq hbw st  K hK
        have KQ := KW.out.trans (hbw.mono KW.out.size)
        simp only [Act.put, List.setIfInBounds_toArray, List.set_cons_zero, List.set_cons_succ] at hK ⊢
        unfold opStep
        rw [if_pos (by rfl)]
        go_simp
        refine (made_as part_must (rpart_any _ vB vC M (n : Int) F B C _ (HG.out.1.on KQ) (HG.out.2.1.on KQ) (HG.out.2.2.1.on KQ) true hB hC h7)).mono ?_
        rintro e wz ⟨v, rfl, hr, hbz⟩
        go_simp
        exact hK.out _ _ hbz hr _ rfl
      case q4 =>
        intro wq hbw st  K hK
        have KQ := KW.out.trans (hbw.mono KW.out.size)
        simp only [Act.put, List.setIfInBounds_toArray, List.set_cons_zero, List.set_cons_succ] at hK ⊢
        unfold opStep
        rw [if_pos (by rfl)]
        obtain ⟨d0, d1, d2, d3, d4, d5, dlt⟩ := blk6 (KB.out.on hbw)
        go_simp
        exact hK.out _ _ (Below.refl _ _) rfl _ rfl
      case q5 =>
        intro wq hbw st  K hK
        have KQ := KW.out.trans (hbw.mono KW.out.size)
        simp only [Act.put, List.setIfInBounds_toArray, List.set_cons_zero, List.set_cons_succ] at hK ⊢
        unfold opStep
        rw [if_pos (by rfl)]
        go_simp
        exact hK.out _ _ (Below.refl _ _) rfl _ rfl
      case q6 =>
        intro wq hbw st  K hK
        have KQ := KW.out.trans (hbw.mono KW.out.size)
        simp only [Act.put, List.setIfInBounds_toArray, List.set_cons_zero, List.set_cons_succ] at hK ⊢
        unfold opStep
        rw [if_pos (by rfl)]
        go_simp
        exact hK.out _ _ (Below.refl _ _) rfl _ rfl
      case q7 =>
        intro wq hbw st x3 h3 K hK
        have KQ := KW.out.trans (hbw.mono KW.out.size)
        simp only [Act.put, List.setIfInBounds_toArray, List.set_cons_zero, List.set_cons_succ] at hK ⊢
        unfold opStep
        rw [if_pos (by rfl)]
        go_simp
        refine (made_as part_may (rpart_any _ vB vC M (n : Int) F B C _ (HG.out.1.on KQ) (HG.out.2.1.on KQ) (HG.out.2.2.1.on KQ) false hB hC h7)).mono ?_
        rintro e wz ⟨v, rfl, hr, hbz⟩
        go_simp
        exact hK.out _ _ hbz hr _ rfl
      case q8 =>
        intro wq hbw st x3 h3 x7 h7 K hK
        have KQ := KW.out.trans (hbw.mono KW.out.size)
        simp only [Act.put, List.setIfInBounds_toArray, List.set_cons_zero, List.set_cons_succ] at hK ⊢
        unfold opStep
        rw [if_pos (by rfl)]
        go_simp
        exact hK.out _ _ (Below.refl _ _) h3 _ rfl
      case q9 =>
        intro wq hbw st x3 h3 x7 h7 x8 h8 K hK
        have KQ := KW.out.trans (hbw.mono KW.out.size)
        simp only [Act.put, List.setIfInBounds_toArray, List.set_cons_zero, List.set_cons_succ] at hK ⊢
        unfold opStep
        rw [if_pos (by rfl)]
        go_simp
        exact hK.out _ _ (Below.refl _ _) h7 _ rfl
      case qfin =>
        intro wq hbw
        intro x3 h3 x7 h7 x8 h8 x9 h9
        try simp only [FinAll]
        simp only [Act.put, List.setIfInBounds_toArray, List.set_cons_zero, List.set_cons_succ]
        have HMU : Hid (Reads vi wq x8 (mustL M (n : Int) F B C)) := Lib.hid h8
        have HMA : Hid (Reads vi wq x9 (mayL M (n : Int) F B C)) := Lib.hid h9
        replace KB := Lib.hid (KB.out.on hbw)
        replace KW := Lib.hid (KW.out.trans (hbw.mono KW.out.size))
        clear h3 h8 h9 hbw c0 c1 c2 c3 c4 c5 hlt
        have HLP : Hid (∀ r, lackP M (n : Int) F B C x r = (decide (r ∈ mustL M (n : Int) F B C) || (decide (r ∈ mayL M (n : Int) F B C) && !decide (r ∈ x)))) := Lib.hid fun _ => rfl
        generalize mustL M (n : Int) F B C = mu at *
        generalize mayL M (n : Int) F B C = ma at *
        go_wp2
        obtain ⟨wa, hwa⟩ : ∃ x, x = wq := ⟨_, rfl⟩
        rw [← hwa] at KB KW HMU HMA ⊢
        clear hwa
        go_loopg [14, 15] n (fun m o i wr => ∃ k : Nat, m + k = n ∧ i = .int .i64 k ∧ wr.ownsRow wa.heap.size 3 1 o (upTo (lackP M (n : Int) F B C x) k).length ((upTo (lackP M (n : Int) F B C x) k).map vi) ∧ Below wa.heap.size wa wr)
        case atStart => exact ⟨0, by omega, rfl, by simp [upTo, World.ownsRow], Below.refl _ _⟩
        case round =>
          obtain ⟨k, hmk, rfl, hown, hbel⟩ := hrel
          have HM := Lib.hid hmk
          have hk : k ≤ n := by omega
          have HOO := Lib.hid (And.intro hown hbel)
          replace KB := Lib.hid (KB.out.on hbel)
          replace KW := Lib.hid (KW.out.trans (hbel.mono KW.out.size))
          replace HMU := Lib.hid (HMU.out.keep hbel)
          replace HMA := Lib.hid (HMA.out.keep hbel)
          obtain ⟨c0, c1, c2, c3, c4, c5, hlt⟩ := blk6 KB.out
          have hol := upTo_len (lackP M (n : Int) F B C x) k
          have HYES := Lib.hid (And.intro (@upTo_yes (lackP M (n : Int) F B C x) k) (@upTo_no (lackP M (n : Int) F B C x) k))
          clear hmk hown hbel
          by_cases hkn : k < n
          · have hpk := HLP.out (k : Int)
            by_cases h1 : (k : Int) ∈ mu
            · have M1 := Lib.hid (decide_eq_true h1)
              rw [decide_eq_true h1, Bool.true_or] at hpk
              clear h1
              have HPK := Lib.hid hpk
              clear hpk
              go_wp2_with fail
              refine (has39_is mu (k : Int) _ HMU.out M1.out).mono ?_
              rintro e w50 ⟨rfl, rfl⟩
              go_wp2_with (at_builtin; refine wpList_append_own _ rfl _ _ 22 rfl wa.heap.size 3 i0 (.int .i64 0) 1 8 Try.underlying22 HI.out.1 HI.out.2.1 HI.out.2.2.1 HI.out.2.2.2 rfl (by decide) _ _ _ rfl (by exact HOO.out.1.alloc _) ⟨_, 0, none⟩ 1 1 [.int .i64 k] rfl rfl (cell_one_new _ _ _) (by intro u hu; simp at hu; subst hu; rfl) (by unfold maxLen; omega) (by omega) (by have := HOO.out.2.size; simp; omega) ?_)
              intro v5 w5 hown5 hgr5 _
              have H5 := Lib.hid (append_one (x := (k : Int)) HOO.out.1 HOO.out.2 (by exact hgr5) hown5)
              clear hown5 hgr5
              go_wp2
              go_roundg (n - (k + 1))
              case measure => have := HM.out; omega
              case rel => exact ⟨k + 1, by omega, by go_num, by rw [HYES.out.1 HPK.out]; exact H5.out.1, H5.out.2⟩
            · have M1 := Lib.hid (decide_eq_false h1)
              rw [decide_eq_false h1, Bool.false_or] at hpk
              clear h1
              by_cases h2 : (k : Int) ∈ ma
              · have M2 := Lib.hid (decide_eq_true h2)
                rw [decide_eq_true h2, Bool.true_and] at hpk
                clear h2
                by_cases h3 : (k : Int) ∈ x
                · have M3 := Lib.hid (decide_eq_true h3)
                  rw [decide_eq_true h3] at hpk
                  clear h3
                  have HPK := Lib.hid hpk
                  clear hpk
                  go_wp2_with fail
                  refine (has39_is mu (k : Int) _ HMU.out M1.out).mono ?_
                  rintro e w50 ⟨rfl, rfl⟩
                  go_wp2_with fail
                  refine (has39_is ma (k : Int) _ HMA.out M2.out).mono ?_
                  rintro e w51 ⟨rfl, rfl⟩
                  go_wp2_with fail
                  refine (has39_is x (k : Int) _ (HG.out.2.2.2.keep KW.out) M3.out).mono ?_
                  rintro e w52 ⟨rfl, rfl⟩
                  go_wp2
                  go_roundg (n - (k + 1))
                  case measure => have := HM.out; omega
                  case rel => exact ⟨k + 1, by omega, by go_num, by rw [HYES.out.2 HPK.out]; exact HOO.out.1, HOO.out.2⟩
                · have M3 := Lib.hid (decide_eq_false h3)
                  rw [decide_eq_false h3] at hpk
                  clear h3
                  have HPK := Lib.hid hpk
                  clear hpk
                  go_wp2_with fail
                  refine (has39_is mu (k : Int) _ HMU.out M1.out).mono ?_
                  rintro e w50 ⟨rfl, rfl⟩
                  go_wp2_with fail
                  refine (has39_is ma (k : Int) _ HMA.out M2.out).mono ?_
                  rintro e w51 ⟨rfl, rfl⟩
                  go_wp2_with fail
                  refine (has39_is x (k : Int) _ (HG.out.2.2.2.keep KW.out) M3.out).mono ?_
                  rintro e w52 ⟨rfl, rfl⟩
                  go_wp2_with (at_builtin; refine wpList_append_own _ rfl _ _ 22 rfl wa.heap.size 3 i0 (.int .i64 0) 1 8 Try.underlying22 HI.out.1 HI.out.2.1 HI.out.2.2.1 HI.out.2.2.2 rfl (by decide) _ _ _ rfl (by exact HOO.out.1.alloc _) ⟨_, 0, none⟩ 1 1 [.int .i64 k] rfl rfl (cell_one_new _ _ _) (by intro u hu; simp at hu; subst hu; rfl) (by unfold maxLen; omega) (by omega) (by have := HOO.out.2.size; simp; omega) ?_)
                  intro v5 w5 hown5 hgr5 _
                  have H5 := Lib.hid (append_one (x := (k : Int)) HOO.out.1 HOO.out.2 (by exact hgr5) hown5)
                  clear hown5 hgr5
                  go_wp2
                  go_roundg (n - (k + 1))
                  case measure => have := HM.out; omega
                  case rel => exact ⟨k + 1, by omega, by go_num, by rw [HYES.out.1 HPK.out]; exact H5.out.1, H5.out.2⟩
              · have M2 := Lib.hid (decide_eq_false h2)
                rw [decide_eq_false h2, Bool.false_and] at hpk
                clear h2
                have HPK := Lib.hid hpk
                clear hpk
                go_wp2_with fail
                refine (has39_is mu (k : Int) _ HMU.out M1.out).mono ?_
                rintro e w50 ⟨rfl, rfl⟩
                go_wp2_with fail
                refine (has39_is ma (k : Int) _ HMA.out M2.out).mono ?_
                rintro e w51 ⟨rfl, rfl⟩
                go_wp2
                go_roundg (n - (k + 1))
                case measure => have := HM.out; omega
                case rel => exact ⟨k + 1, by omega, by go_num, by rw [HYES.out.2 HPK.out]; exact HOO.out.1, HOO.out.2⟩
          · have hkk : k = n := by omega
            subst hkk
            have HRD := Lib.hid (Reads.of_owns HOO.out.1)
            obtain ⟨ao, co, rfl, -, hm5, -, -⟩ := HRD.out
            unfold maxLen at hm5
            obtain ⟨bF, oF, cF, heF, hlF, hmF, hbF, hcF⟩ := first_cell (HF.out.keep KW.out) HUS.out.2.2.1
            injection heF with e1 e2 e3
            subst e1 e2 e3
            unfold maxLen at hmF
            have hF1 : 0 < F.length := List.length_pos_iff.2 HUS.out.2.2.1
            generalize upTo (lackP M (k : Int) F B C x) k = mr at *
            by_cases hm0 : mr = []
            · have HE2 : Hid (lackL M (k : Int) F B C x = [F.headD 0]) := Lib.hid (by rw [HLL.out, orFirst, if_pos hm0])
              have h0 : ((mr.length : Int) == 0) = true := beq_t (by rw [hm0]; rfl)
              clear hm0
              generalize F.headD 0 = f0 at *
              go_wp2
              go_ret2
              exact lack_yes HLK.out (by rw [HE2.out]; exact reads_one (Blk.new _ _ _)) (KW.out.alloc KW.out.size _)
            · have HE2 : Hid (lackL M (k : Int) F B C x = mr) := Lib.hid (by rw [HLL.out, orFirst, if_neg hm0])
              have h0 : ((mr.length : Int) == 0) = false := beq_f (by have := List.length_pos_iff.2 hm0; omega)
              clear hm0
              go_wp2
              go_ret2
              exact lack_yes HLK.out (by rw [HE2.out]; exact HRD.out) KW.out
  · have HOK := Lib.hid (Bool.eq_false_iff.2 hok)
    clear hok
    go_enter Try.func29, Try.ntmps29
    go_wp2_with fail
    refine (rinterval_any _ vB vC M R F B C _ (HG.out.1.on ((Below.refl _ _).alloc (Nat.le_refl _) _)) (HG.out.2.1.on ((Below.refl _ _).alloc (Nat.le_refl _) _)) (HG.out.2.2.1.on ((Below.refl _ _).alloc (Nat.le_refl _) _)) hB hC h7).mono ?_
    rintro e w2 ⟨vI, rfl, hr, hb⟩
    have KB := Lib.hid ((Blk.new W 25 #[.int .i64 M, .int .i64 R, .slice a1 n1 k1, .int .i64 cl, .slice a2 n2 k2, .slice a3 n3 k3]).on hb)
    have KW := Lib.hid (((Below.refl W.heap.size W).alloc (Nat.le_refl _) (.cells #[.int .i64 M, .int .i64 R, .slice a1 n1 k1, .int .i64 cl, .slice a2 n2 k2, .slice a3 n3 k3] 25)).trans (hb.mono (by simp)))
    clear hb
    obtain ⟨c0, c1, c2, c3, c4, c5, hlt⟩ := blk6 KB.out
    rw [HOK.out]
    clear hr
    go_wp2
    go_ret2
    exact lack_no (lackB_no HOK.out) KW.out
end Go.Proofs.Ytahpecbcpgjinaa
