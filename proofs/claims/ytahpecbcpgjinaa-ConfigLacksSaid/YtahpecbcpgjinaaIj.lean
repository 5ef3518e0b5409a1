/-
  Chapter 39: Quorate of the reference.
-/
import Derived.Test.YtahpecbcpgjinaaIg
namespace Go.Proofs.Ytahpecbcpgjinaa
open Go.RowKit

theorem reads_at {w : World} {v : Value} {xs : List Int} (h : Reads vi w v xs) {k : Nat} (hk : k < xs.length) : ∃ b off cap, v = .slice (some ⟨b, off, none⟩) xs.length cap ∧ b < w.heap.size ∧ w.cell? ⟨b, off + k, none⟩ = some (vi xs[k]) := by
  obtain ⟨ao, cap, rfl, _, _, _, hx⟩ := h
  obtain ⟨b, off, rfl, hb, hc⟩ := hx (by rintro rfl; simp at hk)
  exact ⟨b, off, cap, rfl, hb, hc k hk⟩
theorem risq_as {M : Int} {v u : Value} (xs ys : List Int) {w : World} {b : Bool} (hr : Reads vi w v xs) (hq : Reads vi w u ys) (hn : xs.length ≤ 1000000) (e : isQ M xs ys = b) : Calls Try.prog 48 #[.int .i64 M, v, u] w (BoolMade w b) := e ▸ risq_any M v u xs ys w hr hq hn
theorem members_le {M R : Int} {F : List Int} (hu : usableB M R F = true) (D : List Cmd) : (membersL M R F D).length ≤ 12 := by
  have h := members_valid hu D
  unfold validQ at h
  rw [Bool.and_eq_true] at h
  exact (of_decide_eq_true h.1).2.2
theorem quoE_no {M R : Int} {F x : List Int} {B C : List Cmd} (h : okB M R F B C = false) : quoE M R F B C x = false := by unfold quoE; rw [h]; rfl

set_option maxRecDepth 100000 in
set_option maxHeartbeats 8000000 in
theorem rquorate_any (g vB vC z : Value) (M R : Int) (F x : List Int) (B C : List Cmd) (W : World) (hg : Gen W g M R F) (hb : ReadsC W vB B) (hc : ReadsC W vC C) (hz : Reads vi W z x) (hB : B.length ≤ 40) (hC : C.length ≤ 40) (h7 : (confL R C).length ≤ (confL R B).length + 7) :
    Calls Try.prog 25 #[g, vB, vC, z] W (BoolMade W (quoE M R F B C x)) := by
  obtain ⟨i0, hinf, hz0, hz1, hz2⟩ := info_parts Try.infoInt
  have HI := Lib.hid (And.intro hinf (And.intro hz0 (And.intro hz1 hz2)))
  clear hinf hz0 hz1 hz2
  have HG := Lib.hid (And.intro hg (And.intro hb (And.intro hc hz)))
  obtain ⟨vF, cl, vA, vO, rfl, hF, ⟨a2, n2, k2, rfl⟩, ⟨a3, n3, k3, rfl⟩⟩ := hg
  obtain ⟨a1, n1, k1, rfl⟩ := Slc.of_reads hF
  obtain ⟨aox, cx, rfl, hx1, hx2, _, _⟩ := hz
  unfold maxLen at hx2
  clear hF hb hc
  unfold gen at *
  by_cases hok : okB M R F B C = true
  · have HOK := Lib.hid hok
    obtain ⟨hM12, ⟨hR1, hR2⟩, hF0, _, hFb⟩ := usable_parts (ok_parts hok).1
    have hE128 := allE_len hok h7
    have HDL := Lib.hid (allE_dlen (R := R) hB hC)
    have HPQ : Hid (quoE M R F B C x = decide (∀ D ∈ allE R B C, isQ M (membersL M R F D) x = true)) := Lib.hid (by unfold quoE; rw [hok, Bool.true_and])
    have HUB := Lib.hid (ok_parts hok).1
    obtain ⟨n, rfl⟩ : ∃ n : Nat, R = n := ⟨R.toNat, by omega⟩
    have hn12 : n ≤ 12 := by omega
    have HUS := Lib.hid (And.intro hR1 (And.intro hM12 (And.intro hF0 hFb)))
    have HEE : Hid (∃ E, E = allE (n : Int) B C) := Lib.hid ⟨_, rfl⟩
    clear hok hR1 hR2 hM12 hF0 hFb
    go_enter Try.func25, Try.ntmps25
    go_wp2_with fail
    refine (rinterval_any _ vB vC M n F B C _ (HG.out.1.on ((Below.refl _ _).alloc (Nat.le_refl _) _)) (HG.out.2.1.on ((Below.refl _ _).alloc (Nat.le_refl _) _)) (HG.out.2.2.1.on ((Below.refl _ _).alloc (Nat.le_refl _) _)) hB hC h7).mono ?_
    rintro e w2 ⟨vI, rfl, hr, hb⟩
    have KB := Lib.hid ((Blk.new W 25 #[.int .i64 M, .int .i64 n, .slice a1 n1 k1, .int .i64 cl, .slice a2 n2 k2, .slice a3 n3 k3]).on hb)
    have KW := Lib.hid (((Below.refl W.heap.size W).alloc (Nat.le_refl _) (.cells #[.int .i64 M, .int .i64 n, .slice a1 n1 k1, .int .i64 cl, .slice a2 n2 k2, .slice a3 n3 k3] 25)).trans (hb.mono (by simp)))
    clear hb
    obtain ⟨c0, c1, c2, c3, c4, c5, hlt⟩ := blk6 KB.out
    rw [HOK.out]
    have HE := Lib.hid (hr HOK.out)
    clear hr
    generalize allE (n : Int) B C = E at *
    obtain ⟨aoE, cE, rfl, hE1, hE2, -, -⟩ := HE.out
    unfold maxLen at hE2
    have HQE : Hid (quoE M (n : Int) F B C x = decide (∀ D ∈ E, isQ M (membersL M (n : Int) F D) x = true)) := HPQ
    go_wp2
    clear c0 c1 c2 c3 c4 c5 hlt
    obtain ⟨wb, hwb⟩ : ∃ x, x = w2 := ⟨_, rfl⟩
    rw [← hwb] at KB KW HE ⊢
    clear hwb
    go_loopg [11] E.length (fun m i wr => ∃ j : Nat, m + j = E.length ∧ i = .int .i64 j ∧ (∀ D ∈ E.take j, isQ M (membersL M (n : Int) F D) x = true) ∧ Below wb.heap.size wb wr)
    case atStart => exact ⟨0, by omega, rfl, by simp, Below.refl _ _⟩
    case round =>
      obtain ⟨j, hmj, rfl, hnn, hbel⟩ := hrel
      have HM2 := Lib.hid hmj
      have HBW := Lib.hid hbel
      have HNN := Lib.hid hnn
      replace KB := Lib.hid (KB.out.on hbel)
      replace KW := Lib.hid (KW.out.trans (hbel.mono KW.out.size))
      obtain ⟨c0, c1, c2, c3, c4, c5, hlt⟩ := blk6 KB.out
      have hj : j ≤ E.length := by omega
      clear hmj hbel hnn
      by_cases hjlt : j < E.length
      · obtain ⟨bE, offE, capE, u, hv, hE3, hE4, hbE, hcell, hrd⟩ := HE.out.at_ hjlt
        injection hv with e1 e2 e3
        subst e1
        have hdl := HDL.out E[j] (List.getElem_mem _)
        have HCE := Lib.hid (And.intro hcell hrd)
        have hji : (j : Int) < E.length := by omega
        have hj0 : (0 : Int) ≤ (j : Int) := by omega
        clear e2 e3 hcell hrd
        have hsn : isQ M (membersL M (n : Int) F E[j]) x = true → ∀ D ∈ E.take (j + 1), isQ M (membersL M (n : Int) F D) x = true := fun h D hD => by
          rw [List.take_succ_eq_append_getElem hjlt] at hD
          rcases List.mem_append.1 hD with h' | h'
          · exact HNN.out D h'
          · rw [List.mem_singleton.1 h']; exact h
        have HSN := Lib.hid hsn
        have HMEM := Lib.hid (List.getElem_mem hjlt)
        have hml := members_le HUB.out E[j]
        clear hsn
        generalize E[j] = D at *
        by_cases hq : isQ M (membersL M (n : Int) F D) x = true
        · have HQQ := Lib.hid hq
          clear hq
          go_wp2
          refine region_left [.is (.pointer (some ⟨W.heap.size, 0, none⟩)), .is (.int .i64 M), .is (.agg #[.int .i64 M, .int .i64 n, .slice a1 n1 k1, .int .i64 cl, .slice a2 n2 k2, .slice a3 n3 k3]), .is (.slice (some ⟨bE, offE, none⟩) E.length cE), .is (.int .i64 j), .is (.pointer (some ⟨bE, offE + j, none⟩)), .is u, leftReads vi (membersL M (n : Int) F D), .is (.slice aox x.length cx), .is (.bool true), .is (.bool false)] (by kernel_rfl) rfl (by kernel_rfl) (by kernel_rfl) (.cons ?q0 (.cons ?q1 (.cons ?q2 (.cons ?q3 (.cons ?q4 (.cons ?q5 (.cons ?q6 (.cons ?q7 (.cons ?q8 (.cons ?q9 (.cons ?q10 .nil))))))))))) ?qfin
          case q0 =>
            intro wq hbw st  K hK
            have KQ := KW.out.trans (hbw.mono KW.out.size)
            have KE := HBW.out.trans (hbw.mono HBW.out.size)
            simp only [Act.put, List.setIfInBounds_toArray, List.set_cons_zero, List.set_cons_succ] at hK ⊢
            unfold opStep
            rw [if_pos (by rfl)]
            go_simp
            exact hK.out _ _ (Below.refl _ _) rfl _ rfl
          case q1 =>
            intro wq hbw st  K hK
            have KQ := KW.out.trans (hbw.mono KW.out.size)
            have KE := HBW.out.trans (hbw.mono HBW.out.size)
            simp only [Act.put, List.setIfInBounds_toArray, List.set_cons_zero, List.set_cons_succ] at hK ⊢
            unfold opStep
            rw [if_pos (by rfl)]
            obtain ⟨d0, d1, d2, d3, d4, d5, dlt⟩ := blk6 (KB.out.on hbw)
            go_simp
            exact hK.out _ _ (Below.refl _ _) rfl _ rfl
          case q2 =>
            intro wq hbw st  K hK
            have KQ := KW.out.trans (hbw.mono KW.out.size)
            have KE := HBW.out.trans (hbw.mono HBW.out.size)
            simp only [Act.put, List.setIfInBounds_toArray, List.set_cons_zero, List.set_cons_succ] at hK ⊢
            unfold opStep
            rw [if_pos (by rfl)]
            obtain ⟨d0, d1, d2, d3, d4, d5, dlt⟩ := blk6 (KB.out.on hbw)
            go_simp
            exact hK.out _ _ (Below.refl _ _) rfl _ rfl
          case q3 =>
            intro wq hbw st  K hK
            have KQ := KW.out.trans (hbw.mono KW.out.size)
            have KE := HBW.out.trans (hbw.mono HBW.out.size)
            simp only [Act.put, List.setIfInBounds_toArray, List.set_cons_zero, List.set_cons_succ] at hK ⊢
            unfold opStep
            rw [if_pos (by rfl)]
            go_simp
            exact hK.out _ _ (Below.refl _ _) rfl _ rfl
          case q4 =>
            intro wq hbw st  K hK
            have KQ := KW.out.trans (hbw.mono KW.out.size)
            have KE := HBW.out.trans (hbw.mono HBW.out.size)
            simp only [Act.put, List.setIfInBounds_toArray, List.set_cons_zero, List.set_cons_succ] at hK ⊢
            unfold opStep
            rw [if_pos (by rfl)]
            go_simp
            exact hK.out _ _ (Below.refl _ _) rfl _ rfl
          case q5 =>
            intro wq hbw st  K hK
            have KQ := KW.out.trans (hbw.mono KW.out.size)
            have KE := HBW.out.trans (hbw.mono HBW.out.size)
            simp only [Act.put, List.setIfInBounds_toArray, List.set_cons_zero, List.set_cons_succ] at hK ⊢
            unfold opStep
            rw [if_pos (by rfl)]
            go_simp
            exact hK.out _ _ (Below.refl _ _) rfl _ rfl
          case q6 =>
            intro wq hbw st  K hK
            have KQ := KW.out.trans (hbw.mono KW.out.size)
            have KE := HBW.out.trans (hbw.mono HBW.out.size)
            simp only [Act.put, List.setIfInBounds_toArray, List.set_cons_zero, List.set_cons_succ] at hK ⊢
            unfold opStep
            rw [if_pos (by rfl)]
            have q0 := (KE.cell (p := ⟨bE, offE + j, none⟩) hbE).trans HCE.out.1
            go_simp
            exact hK.out _ _ (Below.refl _ _) rfl _ rfl
          case q7 =>
            intro wq hbw st  K hK
            have KQ := KW.out.trans (hbw.mono KW.out.size)
            have KE := HBW.out.trans (hbw.mono HBW.out.size)
            simp only [Act.put, List.setIfInBounds_toArray, List.set_cons_zero, List.set_cons_succ] at hK ⊢
            unfold opStep
            rw [if_pos (by rfl)]
            go_simp
            refine (rmembers_any _ u M (n : Int) F D _ (HG.out.1.on KQ) (HCE.out.2.on KE) (by omega)).mono ?_
            rintro e wz ⟨v, rfl, hr, hbz⟩
            go_simp
            exact hK.out _ _ hbz hr _ rfl
          case q8 =>
            intro wq hbw st  K hK
            have KQ := KW.out.trans (hbw.mono KW.out.size)
            have KE := HBW.out.trans (hbw.mono HBW.out.size)
            simp only [Act.put, List.setIfInBounds_toArray, List.set_cons_zero, List.set_cons_succ] at hK ⊢
            unfold opStep
            rw [if_pos (by rfl)]
            go_simp
            exact hK.out _ _ (Below.refl _ _) rfl _ rfl
          case q9 =>
            intro wq hbw st x7 h7 K hK
            have KQ := KW.out.trans (hbw.mono KW.out.size)
            have KE := HBW.out.trans (hbw.mono HBW.out.size)
            simp only [Act.put, List.setIfInBounds_toArray, List.set_cons_zero, List.set_cons_succ] at hK ⊢
            unfold opStep
            rw [if_pos (by rfl)]
            go_simp
            refine (risq_as _ _ h7 (HG.out.2.2.2.keep KQ) (by omega) HQQ.out).mono ?_
            rintro e wz ⟨rfl, hbz⟩
            go_simp
            exact hK.out _ _ hbz rfl _ rfl
          case q10 =>
            intro wq hbw st  K hK
            have KQ := KW.out.trans (hbw.mono KW.out.size)
            have KE := HBW.out.trans (hbw.mono HBW.out.size)
            simp only [Act.put, List.setIfInBounds_toArray, List.set_cons_zero, List.set_cons_succ] at hK ⊢
            unfold opStep
            rw [if_pos (by rfl)]
            go_simp
            exact hK.out _ _ (Below.refl _ _) rfl _ rfl
          case qfin =>
            intro wq hbw
            intro x7 h7
            try simp only [FinAll]
            simp only [Act.put, List.setIfInBounds_toArray, List.set_cons_zero, List.set_cons_succ]
            have H5 := Lib.hid (HBW.out.trans (hbw.mono HBW.out.size))
            clear hbw
            go_wp2
            go_roundg (E.length - (j + 1))
            case measure => have := HM2.out; omega
            case rel => exact ⟨j + 1, by omega, by go_num, HSN.out HQQ.out, H5.out⟩
        · have HQQ := Lib.hid (Bool.eq_false_iff.2 hq)
          clear hq
          go_wp2
          refine region_left [.is (.pointer (some ⟨W.heap.size, 0, none⟩)), .is (.int .i64 M), .is (.agg #[.int .i64 M, .int .i64 n, .slice a1 n1 k1, .int .i64 cl, .slice a2 n2 k2, .slice a3 n3 k3]), .is (.slice (some ⟨bE, offE, none⟩) E.length cE), .is (.int .i64 j), .is (.pointer (some ⟨bE, offE + j, none⟩)), .is u, leftReads vi (membersL M (n : Int) F D), .is (.slice aox x.length cx), .is (.bool false), .is (.bool true)] (by kernel_rfl) rfl (by kernel_rfl) (by kernel_rfl) (.cons ?q0 (.cons ?q1 (.cons ?q2 (.cons ?q3 (.cons ?q4 (.cons ?q5 (.cons ?q6 (.cons ?q7 (.cons ?q8 (.cons ?q9 (.cons ?q10 .nil))))))))))) ?qfin
          case q0 =>
            intro wq hbw st  K hK
            have KQ := KW.out.trans (hbw.mono KW.out.size)
            have KE := HBW.out.trans (hbw.mono HBW.out.size)
            simp only [Act.put, List.setIfInBounds_toArray, List.set_cons_zero, List.set_cons_succ] at hK ⊢
            unfold opStep
            rw [if_pos (by rfl)]
            go_simp
            exact hK.out _ _ (Below.refl _ _) rfl _ rfl
          case q1 =>
            intro wq hbw st  K hK
            have KQ := KW.out.trans (hbw.mono KW.out.size)
            have KE := HBW.out.trans (hbw.mono HBW.out.size)
            simp only [Act.put, List.setIfInBounds_toArray, List.set_cons_zero, List.set_cons_succ] at hK ⊢
            unfold opStep
            rw [if_pos (by rfl)]
            obtain ⟨d0, d1, d2, d3, d4, d5, dlt⟩ := blk6 (KB.out.on hbw)
            go_simp
            exact hK.out _ _ (Below.refl _ _) rfl _ rfl
          case q2 =>
            intro wq hbw st  K hK
            have KQ := KW.out.trans (hbw.mono KW.out.size)
            have KE := HBW.out.trans (hbw.mono HBW.out.size)
            simp only [Act.put, List.setIfInBounds_toArray, List.set_cons_zero, List.set_cons_succ] at hK ⊢
            unfold opStep
            rw [if_pos (by rfl)]
            obtain ⟨d0, d1, d2, d3, d4, d5, dlt⟩ := blk6 (KB.out.on hbw)
            go_simp
            exact hK.out _ _ (Below.refl _ _) rfl _ rfl
          case q3 =>
            intro wq hbw st  K hK
            have KQ := KW.out.trans (hbw.mono KW.out.size)
            have KE := HBW.out.trans (hbw.mono HBW.out.size)
            simp only [Act.put, List.setIfInBounds_toArray, List.set_cons_zero, List.set_cons_succ] at hK ⊢
            unfold opStep
            rw [if_pos (by rfl)]
            go_simp
            exact hK.out _ _ (Below.refl _ _) rfl _ rfl
          case q4 =>
            intro wq hbw st  K hK
            have KQ := KW.out.trans (hbw.mono KW.out.size)
            have KE := HBW.out.trans (hbw.mono HBW.out.size)
            simp only [Act.put, List.setIfInBounds_toArray, List.set_cons_zero, List.set_cons_succ] at hK ⊢
            unfold opStep
            rw [if_pos (by rfl)]
            go_simp
            exact hK.out _ _ (Below.refl _ _) rfl _ rfl
          case q5 =>
            intro wq hbw st  K hK
            have KQ := KW.out.trans (hbw.mono KW.out.size)
            have KE := HBW.out.trans (hbw.mono HBW.out.size)
            simp only [Act.put, List.setIfInBounds_toArray, List.set_cons_zero, List.set_cons_succ] at hK ⊢
            unfold opStep
            rw [if_pos (by rfl)]
            go_simp
            exact hK.out _ _ (Below.refl _ _) rfl _ rfl
          case q6 =>
            intro wq hbw st  K hK
            have KQ := KW.out.trans (hbw.mono KW.out.size)
            have KE := HBW.out.trans (hbw.mono HBW.out.size)
            simp only [Act.put, List.setIfInBounds_toArray, List.set_cons_zero, List.set_cons_succ] at hK ⊢
            unfold opStep
            rw [if_pos (by rfl)]
            have q0 := (KE.cell (p := ⟨bE, offE + j, none⟩) hbE).trans HCE.out.1
            go_simp
            exact hK.out _ _ (Below.refl _ _) rfl _ rfl
          case q7 =>
            intro wq hbw st  K hK
            have KQ := KW.out.trans (hbw.mono KW.out.size)
            have KE := HBW.out.trans (hbw.mono HBW.out.size)
            simp only [Act.put, List.setIfInBounds_toArray, List.set_cons_zero, List.set_cons_succ] at hK ⊢
            unfold opStep
            rw [if_pos (by rfl)]
            go_simp
            refine (rmembers_any _ u M (n : Int) F D _ (HG.out.1.on KQ) (HCE.out.2.on KE) (by omega)).mono ?_
            rintro e wz ⟨v, rfl, hr, hbz⟩
            go_simp
            exact hK.out _ _ hbz hr _ rfl
          case q8 =>
            intro wq hbw st  K hK
            have KQ := KW.out.trans (hbw.mono KW.out.size)
            have KE := HBW.out.trans (hbw.mono HBW.out.size)
            simp only [Act.put, List.setIfInBounds_toArray, List.set_cons_zero, List.set_cons_succ] at hK ⊢
            unfold opStep
            rw [if_pos (by rfl)]
            go_simp
            exact hK.out _ _ (Below.refl _ _) rfl _ rfl
          case q9 =>
            intro wq hbw st x7 h7 K hK
            have KQ := KW.out.trans (hbw.mono KW.out.size)
            have KE := HBW.out.trans (hbw.mono HBW.out.size)
            simp only [Act.put, List.setIfInBounds_toArray, List.set_cons_zero, List.set_cons_succ] at hK ⊢
            unfold opStep
            rw [if_pos (by rfl)]
            go_simp
            refine (risq_as _ _ h7 (HG.out.2.2.2.keep KQ) (by omega) HQQ.out).mono ?_
            rintro e wz ⟨rfl, hbz⟩
            go_simp
            exact hK.out _ _ hbz rfl _ rfl
          case q10 =>
            intro wq hbw st  K hK
            have KQ := KW.out.trans (hbw.mono KW.out.size)
            have KE := HBW.out.trans (hbw.mono HBW.out.size)
            simp only [Act.put, List.setIfInBounds_toArray, List.set_cons_zero, List.set_cons_succ] at hK ⊢
            unfold opStep
            rw [if_pos (by rfl)]
            go_simp
            exact hK.out _ _ (Below.refl _ _) rfl _ rfl
          case qfin =>
            intro wq hbw
            intro x7 h7
            try simp only [FinAll]
            simp only [Act.put, List.setIfInBounds_toArray, List.set_cons_zero, List.set_cons_succ]
            have HW5 := Lib.hid (KW.out.trans (hbw.mono KW.out.size))
            clear hbw
            go_wp2
            go_ret
            exact ⟨ret_bool (HQE.out.trans (decide_eq_false fun h => by have := h _ HMEM.out; rw [HQQ.out] at this; cases this)).symm, HW5.out⟩
      · have hjj : j = E.length := by omega
        subst hjj
        have HALL := HNN.out
        rw [List.take_length] at HALL
        have HRES := Lib.hid (HQE.out.trans (decide_eq_true HALL))
        clear HALL
        go_wp2
        go_ret
        exact ⟨ret_bool HRES.out.symm, KW.out⟩
  · have HOK := Lib.hid (Bool.eq_false_iff.2 hok)
    clear hok
    go_enter Try.func25, Try.ntmps25
    go_wp2_with fail
    refine (rinterval_any _ vB vC M R F B C _ (HG.out.1.on ((Below.refl _ _).alloc (Nat.le_refl _) _)) (HG.out.2.1.on ((Below.refl _ _).alloc (Nat.le_refl _) _)) (HG.out.2.2.1.on ((Below.refl _ _).alloc (Nat.le_refl _) _)) hB hC h7).mono ?_
    rintro e w2 ⟨vI, rfl, hr, hb⟩
    have KB := Lib.hid ((Blk.new W 25 #[.int .i64 M, .int .i64 R, .slice a1 n1 k1, .int .i64 cl, .slice a2 n2 k2, .slice a3 n3 k3]).on hb)
    have KW := Lib.hid (((Below.refl W.heap.size W).alloc (Nat.le_refl _) (.cells #[.int .i64 M, .int .i64 R, .slice a1 n1 k1, .int .i64 cl, .slice a2 n2 k2, .slice a3 n3 k3] 25)).trans (hb.mono (by simp)))
    clear hb
    obtain ⟨c0, c1, c2, c3, c4, c5, hlt⟩ := blk6 KB.out
    rw [HOK.out]
    clear hr
    go_wp2
    go_ret
    exact ⟨ret_bool (quoE_no HOK.out).symm, KW.out⟩
end Go.Proofs.Ytahpecbcpgjinaa
