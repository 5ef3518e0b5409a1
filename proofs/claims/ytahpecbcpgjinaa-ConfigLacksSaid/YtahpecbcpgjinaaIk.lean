/-
  Chapter 39: Tolerates of the reference.
-/
import Derived.Test.YtahpecbcpgjinaaIj
namespace Go.Proofs.Ytahpecbcpgjinaa
open Go.RowKit

theorem rfaults_as {M : Int} {n f : Nat} {w : World} (hn : n ≤ maxLen) (e : faultsN M n = f) : Calls Try.prog 49 #[.int .i64 M, .int .i64 (n : Int)] w fun e w' => e = .returned (.int .i64 (f : Nat)) ∧ w = w' := e ▸ rfaults_any M n w hn
theorem tolB_no {M R : Int} {F x : List Int} {B C : List Cmd} (h : okB M R F B C = false) : tolB M R F B C x = false := by unfold tolB; rw [h]; rfl
def cntIn (x l : List Int) : Nat := (l.filter fun r => decide (r ∈ x)).length
theorem cntIn_snoc (x : List Int) {l : List Int} {k : Nat} (h : k < l.length) : cntIn x (l.take (k + 1)) = cntIn x (l.take k) + if l[k] ∈ x then 1 else 0 := by
  unfold cntIn
  rw [List.take_succ_eq_append_getElem h, List.filter_append, List.length_append]
  by_cases hm : l[k] ∈ x <;> simp [hm]
theorem cntIn_le (x l : List Int) : cntIn x l ≤ l.length := List.length_filter_le _ _
def tolD (M R : Int) (F x : List Int) (D : List Cmd) : Bool := decide (cntIn x (membersL M R F D) ≤ faultsN M (membersL M R F D).length)

set_option maxRecDepth 100000 in
set_option maxHeartbeats 8000000 in
theorem rtolerates_any (g vB vC z : Value) (M R : Int) (F x : List Int) (B C : List Cmd) (W : World) (hg : Gen W g M R F) (hb : ReadsC W vB B) (hc : ReadsC W vC C) (hz : Reads vi W z x) (hB : B.length ≤ 40) (hC : C.length ≤ 40) (h7 : (confL R C).length ≤ (confL R B).length + 7) :
    Calls Try.prog 27 #[g, vB, vC, z] W (BoolMade W (tolB M R F B C x)) := by
  obtain ⟨i0, hinf, hz0, hz1, hz2⟩ := info_parts Try.infoInt
  have HI := Lib.hid (And.intro hinf (And.intro hz0 (And.intro hz1 hz2)))
  clear hinf hz0 hz1 hz2
  have HG := Lib.hid (And.intro hg (And.intro hb (And.intro hc hz)))
  obtain ⟨vF, cl, vA, vO, rfl, hF, ⟨a2, n2, k2, rfl⟩, ⟨a3, n3, k3, rfl⟩⟩ := hg
  obtain ⟨a1, n1, k1, rfl⟩ := Slc.of_reads hF
  obtain ⟨aox, cx, rfl, hx1, hx2, _, _⟩ := hz
  unfold maxLen at hx2
  clear hF hb hc
  unfold gen at *
  by_cases hok : okB M R F B C = true
  · have HOK := Lib.hid hok
    obtain ⟨hM12, ⟨hR1, hR2⟩, hF0, _, hFb⟩ := usable_parts (ok_parts hok).1
    have hE128 := allE_len hok h7
    have HDL := Lib.hid (allE_dlen (R := R) hB hC)
    have HPQ : Hid (tolB M R F B C x = decide (∀ D ∈ allE R B C, tolD M R F x D = true)) := Lib.hid (by unfold tolB tolD cntIn; rw [hok, Bool.true_and]; simp only [decide_eq_true_eq])
    have HUB := Lib.hid (ok_parts hok).1
    obtain ⟨n, rfl⟩ : ∃ n : Nat, R = n := ⟨R.toNat, by omega⟩
    have hn12 : n ≤ 12 := by omega
    have HUS := Lib.hid (And.intro hR1 (And.intro hM12 (And.intro hF0 hFb)))
    have HEE : Hid (∃ E, E = allE (n : Int) B C) := Lib.hid ⟨_, rfl⟩
    clear hok hR1 hR2 hM12 hF0 hFb
    go_enter Try.func27, Try.ntmps27
    go_wp2_with fail
    refine (rinterval_any _ vB vC M n F B C _ (HG.out.1.on ((Below.refl _ _).alloc (Nat.le_refl _) _)) (HG.out.2.1.on ((Below.refl _ _).alloc (Nat.le_refl _) _)) (HG.out.2.2.1.on ((Below.refl _ _).alloc (Nat.le_refl _) _)) hB hC h7).mono ?_
    rintro e w2 ⟨vI, rfl, hr, hb⟩
    have KB := Lib.hid ((Blk.new W 25 #[.int .i64 M, .int .i64 n, .slice a1 n1 k1, .int .i64 cl, .slice a2 n2 k2, .slice a3 n3 k3]).on hb)
    have KW := Lib.hid (((Below.refl W.heap.size W).alloc (Nat.le_refl _) (.cells #[.int .i64 M, .int .i64 n, .slice a1 n1 k1, .int .i64 cl, .slice a2 n2 k2, .slice a3 n3 k3] 25)).trans (hb.mono (by simp)))
    clear hb
    obtain ⟨c0, c1, c2, c3, c4, c5, hlt⟩ := blk6 KB.out
    rw [HOK.out]
    have HE := Lib.hid (hr HOK.out)
    clear hr
    generalize allE (n : Int) B C = E at *
    obtain ⟨aoE, cE, rfl, hE1, hE2, -, -⟩ := HE.out
    unfold maxLen at hE2
    have HQE : Hid (tolB M (n : Int) F B C x = decide (∀ D ∈ E, tolD M (n : Int) F x D = true)) := HPQ
    go_wp2
    clear c0 c1 c2 c3 c4 c5 hlt
    obtain ⟨wb, hwb⟩ : ∃ x, x = w2 := ⟨_, rfl⟩
    rw [← hwb] at KB KW HE ⊢
    clear hwb
    go_loopg [11] E.length (fun m i wr => ∃ j : Nat, m + j = E.length ∧ i = .int .i64 j ∧ (∀ D ∈ E.take j, tolD M (n : Int) F x D = true) ∧ Below wb.heap.size wb wr)
    case atStart => exact ⟨0, by omega, rfl, by simp, Below.refl _ _⟩
    case round =>
      obtain ⟨j, hmj, rfl, hnn, hbel⟩ := hrel
      have HM2 := Lib.hid hmj
      have HBW := Lib.hid hbel
      have HNN := Lib.hid hnn
      replace KB := Lib.hid (KB.out.on hbel)
      replace KW := Lib.hid (KW.out.trans (hbel.mono KW.out.size))
      obtain ⟨c0, c1, c2, c3, c4, c5, hlt⟩ := blk6 KB.out
      have hj : j ≤ E.length := by omega
      clear hmj hbel hnn
      by_cases hjlt : j < E.length
      · obtain ⟨bE, offE, capE, u, hv, hE3, hE4, hbE, hcell, hrd⟩ := HE.out.at_ hjlt
        injection hv with e1 e2 e3
        subst e1
        have hdl := HDL.out E[j] (List.getElem_mem _)
        have HCE := Lib.hid (And.intro hcell hrd)
        have hji : (j : Int) < E.length := by omega
        have hj0 : (0 : Int) ≤ (j : Int) := by omega
        clear e2 e3 hcell hrd
        have hsn : tolD M (n : Int) F x E[j] = true → ∀ D ∈ E.take (j + 1), tolD M (n : Int) F x D = true := fun h D hD => by
          rw [List.take_succ_eq_append_getElem hjlt] at hD
          rcases List.mem_append.1 hD with h' | h'
          · exact HNN.out D h'
          · rw [List.mem_singleton.1 h']; exact h
        have HSN := Lib.hid hsn
        have HMEM := Lib.hid (List.getElem_mem hjlt)
        have hml := members_le HUB.out E[j]
        clear hsn
        generalize E[j] = D at *
        have HTD : Hid (tolD M (n : Int) F x D = decide (cntIn x (membersL M (n : Int) F D) ≤ faultsN M (membersL M (n : Int) F D).length)) := Lib.hid rfl
        go_wp2
        refine region_left [.is (.agg #[.int .i64 M, .int .i64 n, .slice a1 n1 k1, .int .i64 cl, .slice a2 n2 k2, .slice a3 n3 k3]), .is (.slice (some ⟨bE, offE, none⟩) E.length cE), .is (.int .i64 j), .is (.pointer (some ⟨bE, offE + j, none⟩)), .is u, leftReads vi (membersL M (n : Int) F D), leftReads vi (membersL M (n : Int) F D)] (by kernel_rfl) rfl (by kernel_rfl) (by kernel_rfl) (.cons ?q0 (.cons ?q1 (.cons ?q2 (.cons ?q3 (.cons ?q4 (.cons ?q5 (.cons ?q6 .nil))))))) ?qfin
        case q0 =>
          intro wq hbw st  K hK
          have KQ := KW.out.trans (hbw.mono KW.out.size)
          have KE := HBW.out.trans (hbw.mono HBW.out.size)
          simp only [Act.put, List.setIfInBounds_toArray, List.set_cons_zero, List.set_cons_succ] at hK ⊢
          unfold opStep
          rw [if_pos (by rfl)]
          obtain ⟨d0, d1, d2, d3, d4, d5, dlt⟩ := blk6 (KB.out.on hbw)
          go_simp
          exact hK.out _ _ (Below.refl _ _) rfl _ rfl
        case q1 =>
          intro wq hbw st  K hK
          have KQ := KW.out.trans (hbw.mono KW.out.size)
          have KE := HBW.out.trans (hbw.mono HBW.out.size)
          simp only [Act.put, List.setIfInBounds_toArray, List.set_cons_zero, List.set_cons_succ] at hK ⊢
          unfold opStep
          rw [if_pos (by rfl)]
          go_simp
          exact hK.out _ _ (Below.refl _ _) rfl _ rfl
        case q2 =>
          intro wq hbw st  K hK
          have KQ := KW.out.trans (hbw.mono KW.out.size)
          have KE := HBW.out.trans (hbw.mono HBW.out.size)
          simp only [Act.put, List.setIfInBounds_toArray, List.set_cons_zero, List.set_cons_succ] at hK ⊢
          unfold opStep
          rw [if_pos (by rfl)]
          go_simp
          exact hK.out _ _ (Below.refl _ _) rfl _ rfl
        case q3 =>
          intro wq hbw st  K hK
          have KQ := KW.out.trans (hbw.mono KW.out.size)
          have KE := HBW.out.trans (hbw.mono HBW.out.size)
          simp only [Act.put, List.setIfInBounds_toArray, List.set_cons_zero, List.set_cons_succ] at hK ⊢
          unfold opStep
          rw [if_pos (by rfl)]
          go_simp
          exact hK.out _ _ (Below.refl _ _) rfl _ rfl
        case q4 =>
          intro wq hbw st  K hK
          have KQ := KW.out.trans (hbw.mono KW.out.size)
          have KE := HBW.out.trans (hbw.mono HBW.out.size)
          simp only [Act.put, List.setIfInBounds_toArray, List.set_cons_zero, List.set_cons_succ] at hK ⊢
          unfold opStep
          rw [if_pos (by rfl)]
          have q0 := (KE.cell (p := ⟨bE, offE + j, none⟩) hbE).trans HCE.out.1
          go_simp
          exact hK.out _ _ (Below.refl _ _) rfl _ rfl
        case q5 =>
          intro wq hbw st  K hK
          have KQ := KW.out.trans (hbw.mono KW.out.size)
          have KE := HBW.out.trans (hbw.mono HBW.out.size)
          simp only [Act.put, List.setIfInBounds_toArray, List.set_cons_zero, List.set_cons_succ] at hK ⊢
          unfold opStep
          rw [if_pos (by rfl)]
          go_simp
          refine (rmembers_any _ u M (n : Int) F D _ (HG.out.1.on KQ) (HCE.out.2.on KE) (by omega)).mono ?_
          rintro e wz ⟨v, rfl, hr, hbz⟩
          go_simp
          exact hK.out _ _ hbz hr _ rfl
        case q6 =>
          intro wq hbw st x5 h5 K hK
          have KQ := KW.out.trans (hbw.mono KW.out.size)
          have KE := HBW.out.trans (hbw.mono HBW.out.size)
          simp only [Act.put, List.setIfInBounds_toArray, List.set_cons_zero, List.set_cons_succ] at hK ⊢
          unfold opStep
          rw [if_pos (by rfl)]
          go_simp
          exact hK.out _ _ (Below.refl _ _) h5 _ rfl
        case qfin =>
          intro wq hbw
          intro x5 h5 x6 h6
          try simp only [FinAll]
          simp only [Act.put, List.setIfInBounds_toArray, List.set_cons_zero, List.set_cons_succ]
          have H6 : Hid (Reads vi wq x6 (membersL M (n : Int) F D)) := Lib.hid h6
          replace HBW := Lib.hid (HBW.out.trans (hbw.mono HBW.out.size))
          replace KB := Lib.hid (KB.out.on hbw)
          replace KW := Lib.hid (KW.out.trans (hbw.mono KW.out.size))
          clear h5 h6 hbw c0 c1 c2 c3 c4 c5 hlt
          generalize membersL M (n : Int) F D = l at *
          obtain ⟨aol, cl2, rfl, hl1, hl2, -, -⟩ := H6.out
          unfold maxLen at hl2
          obtain ⟨c0, c1, c2, c3, c4, c5, hlt⟩ := blk6 KB.out
          go_wp2
          obtain ⟨G2, hG2⟩ : ∃ G, G = gk := ⟨_, rfl⟩
          subst hG2
          go_loop [13, 14] (fun nn i => ∃ k : Nat, k ≤ l.length ∧ i = .int .i64 k ∧ nn = .int .i64 (cntIn x (l.take k) : Nat)) (fun nn i => l.length - (intOf i).toNat)
          case atStart => exact ⟨0, by omega, rfl, by simp [cntIn]⟩
          case round =>
            obtain ⟨k, hk, rfl, hnn⟩ := hrel
            by_cases hlt2 : k < l.length
            · obtain ⟨b, off, cap, hv, hbl, hcl⟩ := reads_at H6.out hlt2
              injection hv with e1 e2 e3
              subst e1
              have hki : (k : Int) < l.length := by omega
              have hk0 : (0 : Int) ≤ (k : Int) := by omega
              have hsn2 := cntIn_snoc x hlt2
              have hcle := cntIn_le x (l.take k)
              have hcle2 : (l.take k).length ≤ l.length := by rw [List.length_take]; omega
              have hcon := has39_any _ x l[k] wq (HG.out.2.2.2.keep KW.out)
              unfold vi at hcl
              generalize l[k] = y at *
              generalize cntIn x (l.take k) = q at *
              subst hnn
              clear e2 e3
              by_cases hm : y ∈ x
              · rw [if_pos hm] at hsn2
                rw [decide_eq_true hm] at hcon
                have HSN2 := Lib.hid hsn2
                have HCON := Lib.hid hcon
                clear hm hsn2 hcon
                go_wp2_with fail
                refine HCON.out.mono ?_
                rintro e w7 ⟨rfl, rfl⟩
                go_wp2
                go_round
                case rel => exact ⟨k + 1, by omega, by go_num, by rw [HSN2.out]; go_num⟩
                case measure => simp [intOf]; omega
              · rw [if_neg hm] at hsn2
                rw [decide_eq_false hm] at hcon
                have HSN2 := Lib.hid hsn2
                have HCON := Lib.hid hcon
                clear hm hsn2 hcon
                go_wp2_with fail
                refine HCON.out.mono ?_
                rintro e w7 ⟨rfl, rfl⟩
                go_wp2
                go_round
                case rel => exact ⟨k + 1, by omega, by go_num, by rw [HSN2.out]; go_num⟩
                case measure => simp [intOf]; omega
            · have hkk : k = l.length := by omega
              subst hkk
              rw [List.take_length] at hnn
              have hfl := @faults_le M l.length
              have hfc := @rfaults_as M l.length _ wq (by unfold maxLen; omega) rfl
              have hcle := cntIn_le x l
              generalize cntIn x l = q at *
              generalize faultsN M l.length = fl at *
              have HFC := Lib.hid hfc
              clear hfc
              subst hnn
              by_cases hq : q ≤ fl
              · have HQQ := Lib.hid (HTD.out.trans (decide_eq_true hq))
                have y0 : decide ((fl : Int) < (q : Int)) = false := decide_eq_false (by omega)
                have y1 : decide (fl < q) = false := decide_eq_false (by omega)
                clear hq
                go_wp2_with fail
                refine HFC.out.mono ?_
                rintro e w7 ⟨rfl, rfl⟩
                go_wp2
                go_roundg (E.length - (j + 1))
                case measure => have := HM2.out; omega
                case rel => exact ⟨j + 1, by omega, by go_num, HSN.out HQQ.out, HBW.out⟩
              · have HQQ := Lib.hid (HTD.out.trans (decide_eq_false hq))
                have y0 : decide ((fl : Int) < (q : Int)) = true := decide_eq_true (by omega)
                have y1 : decide (fl < q) = true := decide_eq_true (by omega)
                clear hq
                go_wp2_with fail
                refine HFC.out.mono ?_
                rintro e w7 ⟨rfl, rfl⟩
                go_wp2
                go_ret
                exact ⟨ret_bool (HQE.out.trans (decide_eq_false fun h => by have := h _ HMEM.out; rw [HQQ.out] at this; cases this)).symm, KW.out⟩
      · have hjj : j = E.length := by omega
        subst hjj
        have HALL := HNN.out
        rw [List.take_length] at HALL
        have HRES := Lib.hid (HQE.out.trans (decide_eq_true HALL))
        clear HALL
        go_wp2
        go_ret
        exact ⟨ret_bool HRES.out.symm, KW.out⟩
  · have HOK := Lib.hid (Bool.eq_false_iff.2 hok)
    clear hok
    go_enter Try.func27, Try.ntmps27
    go_wp2_with fail
    refine (rinterval_any _ vB vC M R F B C _ (HG.out.1.on ((Below.refl _ _).alloc (Nat.le_refl _) _)) (HG.out.2.1.on ((Below.refl _ _).alloc (Nat.le_refl _) _)) (HG.out.2.2.1.on ((Below.refl _ _).alloc (Nat.le_refl _) _)) hB hC h7).mono ?_
    rintro e w2 ⟨vI, rfl, hr, hb⟩
    have KB := Lib.hid ((Blk.new W 25 #[.int .i64 M, .int .i64 R, .slice a1 n1 k1, .int .i64 cl, .slice a2 n2 k2, .slice a3 n3 k3]).on hb)
    have KW := Lib.hid (((Below.refl W.heap.size W).alloc (Nat.le_refl _) (.cells #[.int .i64 M, .int .i64 R, .slice a1 n1 k1, .int .i64 cl, .slice a2 n2 k2, .slice a3 n3 k3] 25)).trans (hb.mono (by simp)))
    clear hb
    obtain ⟨c0, c1, c2, c3, c4, c5, hlt⟩ := blk6 KB.out
    rw [HOK.out]
    clear hr
    go_wp2
    go_ret
    exact ⟨ret_bool (tolB_no HOK.out).symm, KW.out⟩
end Go.Proofs.Ytahpecbcpgjinaa
