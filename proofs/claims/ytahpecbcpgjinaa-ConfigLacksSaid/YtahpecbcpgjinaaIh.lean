/-
  Chapter 39: Reach of the reference.
-/
import Derived.Test.YtahpecbcpgjinaaIg
namespace Go.Proofs.Ytahpecbcpgjinaa
open Go.RowKit

theorem reachE_made {w w' : World} {M R : Int} {F : List Int} {B C : List Cmd} (h : okB M R F B C = false) (hb : Below w.heap.size w w') : MadeI w (reachE M R F B C) (.returned (.slice none 0 0)) w' :=
  ⟨_, rfl, by unfold reachE; rw [h]; exact Reads.nil w', hb⟩
/-- A member of one of these configurations. -/
def foundE (M R : Int) (F : List Int) (E : List (List Cmd)) (r : Int) : Bool := decide (∃ D ∈ E, r ∈ membersL M R F D)
theorem foundE_snoc (M R : Int) (F : List Int) {E : List (List Cmd)} {j : Nat} (h : j < E.length) (r : Int) : foundE M R F (E.take (j + 1)) r = (foundE M R F (E.take j) r || decide (r ∈ membersL M R F E[j])) := by
  unfold foundE
  rw [List.take_succ_eq_append_getElem h, Bool.eq_iff_iff, Bool.or_eq_true, decide_eq_true_eq, decide_eq_true_eq, decide_eq_true_eq]
  constructor
  · rintro ⟨D, hD, hm⟩
    rcases List.mem_append.1 hD with h' | h'
    · exact .inl ⟨D, h', hm⟩
    · rw [List.mem_singleton.1 h'] at hm; exact .inr hm
  · rintro (⟨D, hD, hm⟩ | hm)
    · exact ⟨D, List.mem_append_left _ hD, hm⟩
    · exact ⟨_, List.mem_append_right _ (List.mem_singleton.2 rfl), hm⟩

set_option maxRecDepth 100000 in
set_option maxHeartbeats 8000000 in
theorem rreach_any (g vB vC : Value) (M R : Int) (F : List Int) (B C : List Cmd) (W : World) (hg : Gen W g M R F) (hb : ReadsC W vB B) (hc : ReadsC W vC C) (hB : B.length ≤ 40) (hC : C.length ≤ 40) (h7 : (confL R C).length ≤ (confL R B).length + 7) :
    Calls Try.prog 23 #[g, vB, vC] W (MadeI W (reachE M R F B C)) := by
  obtain ⟨i0, hinf, hz0, hz1, hz2⟩ := info_parts Try.infoInt
  have HI := Lib.hid (And.intro hinf (And.intro hz0 (And.intro hz1 hz2)))
  clear hinf hz0 hz1 hz2
  have HG := Lib.hid (And.intro hg (And.intro hb (And.intro hc trivial)))
  obtain ⟨vF, cl, vA, vO, rfl, hF, ⟨a2, n2, k2, rfl⟩, ⟨a3, n3, k3, rfl⟩⟩ := hg
  obtain ⟨a1, n1, k1, rfl⟩ := Slc.of_reads hF
  clear hF hb hc
  unfold gen at *
  by_cases hok : okB M R F B C = true
  · have HOK := Lib.hid hok
    obtain ⟨hM12, ⟨hR1, hR2⟩, hF0, _, hFb⟩ := usable_parts (ok_parts hok).1
    have hE128 := allE_len hok h7
    have HDL := Lib.hid (allE_dlen (R := R) hB hC)
    have HPQ : Hid (reachE M R F B C = (reps R).filter (foundE M R F (allE R B C))) := Lib.hid (by unfold reachE; rw [if_pos hok]; rfl)
    obtain ⟨n, rfl⟩ : ∃ n : Nat, R = n := ⟨R.toNat, by omega⟩
    have hn12 : n ≤ 12 := by omega
    have HUS := Lib.hid (And.intro hR1 (And.intro hM12 (And.intro hF0 hFb)))
    have HEE : Hid (∃ E, E = allE (n : Int) B C) := Lib.hid ⟨_, rfl⟩
    clear hok hR1 hR2 hM12 hF0 hFb
    go_enter Try.func23, Try.ntmps23
    go_wp2_with fail
    refine (rinterval_any _ vB vC M n F B C _ (HG.out.1.on ((Below.refl _ _).alloc (Nat.le_refl _) _)) (HG.out.2.1.on ((Below.refl _ _).alloc (Nat.le_refl _) _)) (HG.out.2.2.1.on ((Below.refl _ _).alloc (Nat.le_refl _) _)) hB hC h7).mono ?_
    rintro e w2 ⟨vI, rfl, hr, hb⟩
    have KB := Lib.hid ((Blk.new W 25 #[.int .i64 M, .int .i64 n, .slice a1 n1 k1, .int .i64 cl, .slice a2 n2 k2, .slice a3 n3 k3]).on hb)
    have KW := Lib.hid (((Below.refl W.heap.size W).alloc (Nat.le_refl _) (.cells #[.int .i64 M, .int .i64 n, .slice a1 n1 k1, .int .i64 cl, .slice a2 n2 k2, .slice a3 n3 k3] 25)).trans (hb.mono (by simp)))
    clear hb
    obtain ⟨c0, c1, c2, c3, c4, c5, hlt⟩ := blk6 KB.out
    rw [HOK.out]
    have HE := Lib.hid (hr HOK.out)
    clear hr
    generalize allE (n : Int) B C = E at *
    obtain ⟨aoE, cE, rfl, hE1, hE2, -, -⟩ := HE.out
    unfold maxLen at hE2
    have HPE : Hid (reachE M (n : Int) F B C = upTo (foundE M (n : Int) F E) n) := Lib.hid (by rw [HPQ.out]; rfl)
    go_wp2
    clear c0 c1 c2 c3 c4 c5 hlt
    obtain ⟨wa, hwa⟩ : ∃ x, x = w2 := ⟨_, rfl⟩
    rw [← hwa] at KB KW HE ⊢
    clear hwa
    go_loopg [9, 10] n (fun m o i wr => ∃ k : Nat, m + k = n ∧ i = .int .i64 k ∧ wr.ownsRow wa.heap.size 3 1 o (upTo (foundE M (n : Int) F E) k).length ((upTo (foundE M (n : Int) F E) k).map vi) ∧ Below wa.heap.size wa wr)
    case atStart => exact ⟨0, by omega, rfl, by simp [upTo, World.ownsRow], Below.refl _ _⟩
    case round =>
      obtain ⟨k, hmk, rfl, hown, hbel⟩ := hrel
      have HM := Lib.hid hmk
      have hk : k ≤ n := by omega
      have HOO := Lib.hid (And.intro hown hbel)
      replace KB := Lib.hid (KB.out.on hbel)
      replace KW := Lib.hid (KW.out.trans (hbel.mono KW.out.size))
      replace HE := Lib.hid (HE.out.on hbel)
      obtain ⟨c0, c1, c2, c3, c4, c5, hlt⟩ := blk6 KB.out
      have hol := upTo_len (foundE M (n : Int) F E) k
      have HYES := Lib.hid (And.intro (@upTo_yes (foundE M (n : Int) F E) k) (@upTo_no (foundE M (n : Int) F E) k))
      clear hmk hown hbel
      by_cases hkn : k < n
      · go_wp2
        clear c0 c1 c2 c3 c4 c5 hlt
        obtain ⟨G1, hG1⟩ : ∃ G, G = gk := ⟨_, rfl⟩
        subst hG1
        obtain ⟨wb, hwb⟩ : ∃ x, x = wr := ⟨_, rfl⟩
        rw [← hwb] at HOO KB KW HE ⊢
        clear hwb
        go_loopg [11, 12] E.length (fun m ff i wr => ∃ j : Nat, m + j = E.length ∧ i = .int .i64 j ∧ ff = .bool (foundE M (n : Int) F (E.take j) k) ∧ Below wb.heap.size wb wr)
        case atStart => exact ⟨0, by omega, rfl, by simp [foundE], Below.refl _ _⟩
        case round =>
          obtain ⟨j, hmj, rfl, hnn, hbel⟩ := hrel
          have HM2 := Lib.hid hmj
          have HBW := Lib.hid hbel
          replace KB := Lib.hid (KB.out.on hbel)
          replace KW := Lib.hid (KW.out.trans (hbel.mono KW.out.size))
          obtain ⟨c0, c1, c2, c3, c4, c5, hlt⟩ := blk6 KB.out
          have hj : j ≤ E.length := by omega
          clear hmj hbel
          by_cases hjlt : j < E.length
          · obtain ⟨bE, offE, capE, u, hv, hE3, hE4, hbE, hcell, hrd⟩ := HE.out.at_ hjlt
            injection hv with e1 e2 e3
            subst e1
            have hdl := HDL.out E[j] (List.getElem_mem _)
            have HCE := Lib.hid (And.intro hcell hrd)
            have hji : (j : Int) < E.length := by omega
            have hj0 : (0 : Int) ≤ (j : Int) := by omega
            clear e2 e3 hcell hrd
            have hsn := foundE_snoc M (n : Int) F hjlt (k : Int)
            generalize E[j] = D at *
            generalize foundE M (n : Int) F (E.take j) (k : Int) = q at *
            subst hnn
            cases q
            · by_cases hm : (k : Int) ∈ membersL M (n : Int) F D
              · rw [decide_eq_true hm] at hsn
                have HSN := Lib.hid hsn
                have HMM := Lib.hid (decide_eq_true hm)
                clear hsn hm
                go_wp2
                refine region_left [.is (.bool false), .is (.bool false), .is (.agg #[.int .i64 M, .int .i64 n, .slice a1 n1 k1, .int .i64 cl, .slice a2 n2 k2, .slice a3 n3 k3]), .is (.slice (some ⟨bE, offE, none⟩) E.length cE), .is (.int .i64 j), .is (.pointer (some ⟨bE, offE + j, none⟩)), .is u, leftReads vi (membersL M (n : Int) F D), .is (.int .i64 k), .is (.bool true), .is (.bool true), .is (.bool true)] (by kernel_rfl) rfl (by kernel_rfl) (by kernel_rfl) (.cons ?q0 (.cons ?q1 (.cons ?q2 (.cons ?q3 (.cons ?q4 (.cons ?q5 (.cons ?q6 (.cons ?q7 (.cons ?q8 (.cons ?q9 (.cons ?q10 (.cons ?q11 .nil)))))))))))) ?qfin
                case q0 =>
                  intro wq hbw st  K hK
                  have KQ := KW.out.trans (hbw.mono KW.out.size)
                  have KE := HBW.out.trans (hbw.mono HBW.out.size)
                  simp only [Act.put, List.setIfInBounds_toArray, List.set_cons_zero, List.set_cons_succ] at hK ⊢
                  unfold opStep
                  rw [if_pos (by rfl)]
                  go_simp
                  exact hK.out _ _ (Below.refl _ _) rfl _ rfl
                case q1 =>
                  intro wq hbw st  K hK
                  have KQ := KW.out.trans (hbw.mono KW.out.size)
                  have KE := HBW.out.trans (hbw.mono HBW.out.size)
                  simp only [Act.put, List.setIfInBounds_toArray, List.set_cons_zero, List.set_cons_succ] at hK ⊢
                  unfold opStep
                  rw [if_pos (by rfl)]
                  go_simp
                  exact hK.out _ _ (Below.refl _ _) rfl _ rfl
                case q2 =>
                  intro wq hbw st  K hK
                  have KQ := KW.out.trans (hbw.mono KW.out.size)
                  have KE := HBW.out.trans (hbw.mono HBW.out.size)
                  simp only [Act.put, List.setIfInBounds_toArray, List.set_cons_zero, List.set_cons_succ] at hK ⊢
                  unfold opStep
                  rw [if_pos (by rfl)]
                  obtain ⟨d0, d1, d2, d3, d4, d5, dlt⟩ := blk6 (KB.out.on hbw)
                  go_simp
                  exact hK.out _ _ (Below.refl _ _) rfl _ rfl
                case q3 =>
                  intro wq hbw st  K hK
                  have KQ := KW.out.trans (hbw.mono KW.out.size)
                  have KE := HBW.out.trans (hbw.mono HBW.out.size)
                  simp only [Act.put, List.setIfInBounds_toArray, List.set_cons_zero, List.set_cons_succ] at hK ⊢
                  unfold opStep
                  rw [if_pos (by rfl)]
                  go_simp
                  exact hK.out _ _ (Below.refl _ _) rfl _ rfl
                case q4 =>
                  intro wq hbw st  K hK
                  have KQ := KW.out.trans (hbw.mono KW.out.size)
                  have KE := HBW.out.trans (hbw.mono HBW.out.size)
                  simp only [Act.put, List.setIfInBounds_toArray, List.set_cons_zero, List.set_cons_succ] at hK ⊢
                  unfold opStep
                  rw [if_pos (by rfl)]
                  go_simp
                  exact hK.out _ _ (Below.refl _ _) rfl _ rfl
                case q5 =>
                  intro wq hbw st  K hK
                  have KQ := KW.out.trans (hbw.mono KW.out.size)
                  have KE := HBW.out.trans (hbw.mono HBW.out.size)
                  simp only [Act.put, List.setIfInBounds_toArray, List.set_cons_zero, List.set_cons_succ] at hK ⊢
                  unfold opStep
                  rw [if_pos (by rfl)]
                  go_simp
                  exact hK.out _ _ (Below.refl _ _) rfl _ rfl
                case q6 =>
                  intro wq hbw st  K hK
                  have KQ := KW.out.trans (hbw.mono KW.out.size)
                  have KE := HBW.out.trans (hbw.mono HBW.out.size)
                  simp only [Act.put, List.setIfInBounds_toArray, List.set_cons_zero, List.set_cons_succ] at hK ⊢
                  unfold opStep
                  rw [if_pos (by rfl)]
                  have q0 := (KE.cell (p := ⟨bE, offE + j, none⟩) hbE).trans HCE.out.1
                  go_simp
                  exact hK.out _ _ (Below.refl _ _) rfl _ rfl
                case q7 =>
                  intro wq hbw st  K hK
                  have KQ := KW.out.trans (hbw.mono KW.out.size)
                  have KE := HBW.out.trans (hbw.mono HBW.out.size)
                  simp only [Act.put, List.setIfInBounds_toArray, List.set_cons_zero, List.set_cons_succ] at hK ⊢
                  unfold opStep
                  rw [if_pos (by rfl)]
                  go_simp
                  refine (rmembers_any _ u M (n : Int) F D _ (HG.out.1.on KQ) (HCE.out.2.on KE) (by omega)).mono ?_
                  rintro e wz ⟨v, rfl, hr, hbz⟩
                  go_simp
                  exact hK.out _ _ hbz hr _ rfl
                case q8 =>
                  intro wq hbw st  K hK
                  have KQ := KW.out.trans (hbw.mono KW.out.size)
                  have KE := HBW.out.trans (hbw.mono HBW.out.size)
                  simp only [Act.put, List.setIfInBounds_toArray, List.set_cons_zero, List.set_cons_succ] at hK ⊢
                  unfold opStep
                  rw [if_pos (by rfl)]
                  go_simp
                  exact hK.out _ _ (Below.refl _ _) rfl _ rfl
                case q9 =>
                  intro wq hbw st x7 h7 K hK
                  have KQ := KW.out.trans (hbw.mono KW.out.size)
                  have KE := HBW.out.trans (hbw.mono HBW.out.size)
                  simp only [Act.put, List.setIfInBounds_toArray, List.set_cons_zero, List.set_cons_succ] at hK ⊢
                  unfold opStep
                  rw [if_pos (by rfl)]
                  go_simp
                  refine (has39_as (membersL M (n : Int) F D) k _ h7 HMM.out).mono ?_
                  rintro e wz ⟨rfl, rfl⟩
                  go_simp
                  exact hK.out _ _ (Below.refl _ _) rfl _ rfl
                case q10 =>
                  intro wq hbw st  K hK
                  have KQ := KW.out.trans (hbw.mono KW.out.size)
                  have KE := HBW.out.trans (hbw.mono HBW.out.size)
                  simp only [Act.put, List.setIfInBounds_toArray, List.set_cons_zero, List.set_cons_succ] at hK ⊢
                  unfold opStep
                  rw [if_pos (by rfl)]
                  go_simp
                  exact hK.out _ _ (Below.refl _ _) rfl _ rfl
                case q11 =>
                  intro wq hbw st x7 h7 K hK
                  have KQ := KW.out.trans (hbw.mono KW.out.size)
                  have KE := HBW.out.trans (hbw.mono HBW.out.size)
                  simp only [Act.put, List.setIfInBounds_toArray, List.set_cons_zero, List.set_cons_succ] at hK ⊢
                  unfold opStep
                  rw [if_pos (by rfl)]
                  go_simp
                  exact hK.out _ _ (Below.refl _ _) rfl _ rfl
                case qfin =>
                  intro wq hbw
                  intro x7 h7
                  try simp only [FinAll]
                  simp only [Act.put, List.setIfInBounds_toArray, List.set_cons_zero, List.set_cons_succ]
                  have H5 := Lib.hid (HBW.out.trans (hbw.mono HBW.out.size))
                  clear hbw
                  go_wp2
                  go_roundg (E.length - (j + 1))
                  case measure => have := HM2.out; omega
                  case rel => exact ⟨j + 1, by omega, by go_num, by rw [HSN.out]; rfl, H5.out⟩
              · rw [decide_eq_false hm] at hsn
                have HSN := Lib.hid hsn
                have HMM := Lib.hid (decide_eq_false hm)
                clear hsn hm
                go_wp2
                refine region_left [.is (.bool false), .is (.bool false), .is (.agg #[.int .i64 M, .int .i64 n, .slice a1 n1 k1, .int .i64 cl, .slice a2 n2 k2, .slice a3 n3 k3]), .is (.slice (some ⟨bE, offE, none⟩) E.length cE), .is (.int .i64 j), .is (.pointer (some ⟨bE, offE + j, none⟩)), .is u, leftReads vi (membersL M (n : Int) F D), .is (.int .i64 k), .is (.bool false), .is (.bool false), .is (.bool false)] (by kernel_rfl) rfl (by kernel_rfl) (by kernel_rfl) (.cons ?q0 (.cons ?q1 (.cons ?q2 (.cons ?q3 (.cons ?q4 (.cons ?q5 (.cons ?q6 (.cons ?q7 (.cons ?q8 (.cons ?q9 (.cons ?q10 (.cons ?q11 .nil)))))))))))) ?qfin
                case q0 =>
                  intro wq hbw st  K hK
                  have KQ := KW.out.trans (hbw.mono KW.out.size)
                  have KE := HBW.out.trans (hbw.mono HBW.out.size)
                  simp only [Act.put, List.setIfInBounds_toArray, List.set_cons_zero, List.set_cons_succ] at hK ⊢
                  unfold opStep
                  rw [if_pos (by rfl)]
                  go_simp
                  exact hK.out _ _ (Below.refl _ _) rfl _ rfl
                case q1 =>
                  intro wq hbw st  K hK
                  have KQ := KW.out.trans (hbw.mono KW.out.size)
                  have KE := HBW.out.trans (hbw.mono HBW.out.size)
                  simp only [Act.put, List.setIfInBounds_toArray, List.set_cons_zero, List.set_cons_succ] at hK ⊢
                  unfold opStep
                  rw [if_pos (by rfl)]
                  go_simp
                  exact hK.out _ _ (Below.refl _ _) rfl _ rfl
                case q2 =>
                  intro wq hbw st  K hK
                  have KQ := KW.out.trans (hbw.mono KW.out.size)
                  have KE := HBW.out.trans (hbw.mono HBW.out.size)
                  simp only [Act.put, List.setIfInBounds_toArray, List.set_cons_zero, List.set_cons_succ] at hK ⊢
                  unfold opStep
                  rw [if_pos (by rfl)]
                  obtain ⟨d0, d1, d2, d3, d4, d5, dlt⟩ := blk6 (KB.out.on hbw)
                  go_simp
                  exact hK.out _ _ (Below.refl _ _) rfl _ rfl
                case q3 =>
                  intro wq hbw st  K hK
                  have KQ := KW.out.trans (hbw.mono KW.out.size)
                  have KE := HBW.out.trans (hbw.mono HBW.out.size)
                  simp only [Act.put, List.setIfInBounds_toArray, List.set_cons_zero, List.set_cons_succ] at hK ⊢
                  unfold opStep
                  rw [if_pos (by rfl)]
                  go_simp
                  exact hK.out _ _ (Below.refl _ _) rfl _ rfl
                case q4 =>
                  intro wq hbw st  K hK
                  have KQ := KW.out.trans (hbw.mono KW.out.size)
                  have KE := HBW.out.trans (hbw.mono HBW.out.size)
                  simp only [Act.put, List.setIfInBounds_toArray, List.set_cons_zero, List.set_cons_succ] at hK ⊢
                  unfold opStep
                  rw [if_pos (by rfl)]
                  go_simp
                  exact hK.out _ _ (Below.refl _ _) rfl _ rfl
                case q5 =>
                  intro wq hbw st  K hK
                  have KQ := KW.out.trans (hbw.mono KW.out.size)
                  have KE := HBW.out.trans (hbw.mono HBW.out.size)
                  simp only [Act.put, List.setIfInBounds_toArray, List.set_cons_zero, List.set_cons_succ] at hK ⊢
                  unfold opStep
                  rw [if_pos (by rfl)]
                  go_simp
                  exact hK.out _ _ (Below.refl _ _) rfl _ rfl
                case q6 =>
                  intro wq hbw st  K hK
                  have KQ := KW.out.trans (hbw.mono KW.out.size)
                  have KE := HBW.out.trans (hbw.mono HBW.out.size)
                  simp only [Act.put, List.setIfInBounds_toArray, List.set_cons_zero, List.set_cons_succ] at hK ⊢
                  unfold opStep
                  rw [if_pos (by rfl)]
                  have q0 := (KE.cell (p := ⟨bE, offE + j, none⟩) hbE).trans HCE.out.1
                  go_simp
                  exact hK.out _ _ (Below.refl _ _) rfl _ rfl
                case q7 =>
                  intro wq hbw st  K hK
                  have KQ := KW.out.trans (hbw.mono KW.out.size)
                  have KE := HBW.out.trans (hbw.mono HBW.out.size)
                  simp only [Act.put, List.setIfInBounds_toArray, List.set_cons_zero, List.set_cons_succ] at hK ⊢
                  unfold opStep
                  rw [if_pos (by rfl)]
                  go_simp
                  refine (rmembers_any _ u M (n : Int) F D _ (HG.out.1.on KQ) (HCE.out.2.on KE) (by omega)).mono ?_
                  rintro e wz ⟨v, rfl, hr, hbz⟩
                  go_simp
                  exact hK.out _ _ hbz hr _ rfl
                case q8 =>
                  intro wq hbw st  K hK
                  have KQ := KW.out.trans (hbw.mono KW.out.size)
                  have KE := HBW.out.trans (hbw.mono HBW.out.size)
                  simp only [Act.put, List.setIfInBounds_toArray, List.set_cons_zero, List.set_cons_succ] at hK ⊢
                  unfold opStep
                  rw [if_pos (by rfl)]
                  go_simp
                  exact hK.out _ _ (Below.refl _ _) rfl _ rfl
                case q9 =>
                  intro wq hbw st x7 h7 K hK
                  have KQ := KW.out.trans (hbw.mono KW.out.size)
                  have KE := HBW.out.trans (hbw.mono HBW.out.size)
                  simp only [Act.put, List.setIfInBounds_toArray, List.set_cons_zero, List.set_cons_succ] at hK ⊢
                  unfold opStep
                  rw [if_pos (by rfl)]
                  go_simp
                  refine (has39_as (membersL M (n : Int) F D) k _ h7 HMM.out).mono ?_
                  rintro e wz ⟨rfl, rfl⟩
                  go_simp
                  exact hK.out _ _ (Below.refl _ _) rfl _ rfl
                case q10 =>
                  intro wq hbw st  K hK
                  have KQ := KW.out.trans (hbw.mono KW.out.size)
                  have KE := HBW.out.trans (hbw.mono HBW.out.size)
                  simp only [Act.put, List.setIfInBounds_toArray, List.set_cons_zero, List.set_cons_succ] at hK ⊢
                  unfold opStep
                  rw [if_pos (by rfl)]
                  go_simp
                  exact hK.out _ _ (Below.refl _ _) rfl _ rfl
                case q11 =>
                  intro wq hbw st x7 h7 K hK
                  have KQ := KW.out.trans (hbw.mono KW.out.size)
                  have KE := HBW.out.trans (hbw.mono HBW.out.size)
                  simp only [Act.put, List.setIfInBounds_toArray, List.set_cons_zero, List.set_cons_succ] at hK ⊢
                  unfold opStep
                  rw [if_pos (by rfl)]
                  go_simp
                  exact hK.out _ _ (Below.refl _ _) rfl _ rfl
                case qfin =>
                  intro wq hbw
                  intro x7 h7
                  try simp only [FinAll]
                  simp only [Act.put, List.setIfInBounds_toArray, List.set_cons_zero, List.set_cons_succ]
                  have H5 := Lib.hid (HBW.out.trans (hbw.mono HBW.out.size))
                  clear hbw
                  go_wp2
                  go_roundg (E.length - (j + 1))
                  case measure => have := HM2.out; omega
                  case rel => exact ⟨j + 1, by omega, by go_num, by rw [HSN.out]; rfl, H5.out⟩
            · rw [Bool.true_or] at hsn
              have HSN := Lib.hid hsn
              clear hsn
              go_wp2
              refine region_left [.is (.bool true), .is (.bool true), .is undef, .is undef, .is undef, .is undef, .is undef, .is undef, .is undef, .is undef, .is (.bool true), .is (.bool true)] (by kernel_rfl) rfl (by kernel_rfl) (by kernel_rfl) (.cons ?q0 (.cons ?q1 (.cons ?q2 (.cons ?q3 (.cons ?q4 (.cons ?q5 (.cons ?q6 (.cons ?q7 (.cons ?q8 (.cons ?q9 (.cons ?q10 (.cons ?q11 .nil)))))))))))) ?qfin
              case q0 =>
                intro wq hbw st  K hK
                have KQ := KW.out.trans (hbw.mono KW.out.size)
                have KE := HBW.out.trans (hbw.mono HBW.out.size)
                simp only [Act.put, List.setIfInBounds_toArray, List.set_cons_zero, List.set_cons_succ] at hK ⊢
                unfold opStep
                rw [if_pos (by rfl)]
                go_simp
                exact hK.out _ _ (Below.refl _ _) rfl _ rfl
              case q1 =>
                intro wq hbw st  K hK
                have KQ := KW.out.trans (hbw.mono KW.out.size)
                have KE := HBW.out.trans (hbw.mono HBW.out.size)
                simp only [Act.put, List.setIfInBounds_toArray, List.set_cons_zero, List.set_cons_succ] at hK ⊢
                unfold opStep
                rw [if_pos (by rfl)]
                go_simp
                exact hK.out _ _ (Below.refl _ _) rfl _ rfl
              case q2 =>
                intro wq hbw st  K hK
                have KQ := KW.out.trans (hbw.mono KW.out.size)
                have KE := HBW.out.trans (hbw.mono HBW.out.size)
                simp only [Act.put, List.setIfInBounds_toArray, List.set_cons_zero, List.set_cons_succ] at hK ⊢
                unfold opStep
                rw [if_neg (by change ¬ (false = true); exact Bool.false_ne_true)]
                exact hK.out _ _ (Below.refl _ _) rfl _ rfl
              case q3 =>
                intro wq hbw st  K hK
                have KQ := KW.out.trans (hbw.mono KW.out.size)
                have KE := HBW.out.trans (hbw.mono HBW.out.size)
                simp only [Act.put, List.setIfInBounds_toArray, List.set_cons_zero, List.set_cons_succ] at hK ⊢
                unfold opStep
                rw [if_neg (by change ¬ (false = true); exact Bool.false_ne_true)]
                exact hK.out _ _ (Below.refl _ _) rfl _ rfl
              case q4 =>
                intro wq hbw st  K hK
                have KQ := KW.out.trans (hbw.mono KW.out.size)
                have KE := HBW.out.trans (hbw.mono HBW.out.size)
                simp only [Act.put, List.setIfInBounds_toArray, List.set_cons_zero, List.set_cons_succ] at hK ⊢
                unfold opStep
                rw [if_neg (by change ¬ (false = true); exact Bool.false_ne_true)]
                exact hK.out _ _ (Below.refl _ _) rfl _ rfl
              case q5 =>
                intro wq hbw st  K hK
                have KQ := KW.out.trans (hbw.mono KW.out.size)
                have KE := HBW.out.trans (hbw.mono HBW.out.size)
                simp only [Act.put, List.setIfInBounds_toArray, List.set_cons_zero, List.set_cons_succ] at hK ⊢
                unfold opStep
                rw [if_neg (by change ¬ (false = true); exact Bool.false_ne_true)]
                exact hK.out _ _ (Below.refl _ _) rfl _ rfl
              case q6 =>
                intro wq hbw st  K hK
                have KQ := KW.out.trans (hbw.mono KW.out.size)
                have KE := HBW.out.trans (hbw.mono HBW.out.size)
                simp only [Act.put, List.setIfInBounds_toArray, List.set_cons_zero, List.set_cons_succ] at hK ⊢
                unfold opStep
                rw [if_neg (by change ¬ (false = true); exact Bool.false_ne_true)]
                exact hK.out _ _ (Below.refl _ _) rfl _ rfl
              case q7 =>
                intro wq hbw st  K hK
                have KQ := KW.out.trans (hbw.mono KW.out.size)
                have KE := HBW.out.trans (hbw.mono HBW.out.size)
                simp only [Act.put, List.setIfInBounds_toArray, List.set_cons_zero, List.set_cons_succ] at hK ⊢
                unfold opStep
                rw [if_neg (by change ¬ (false = true); exact Bool.false_ne_true)]
                exact hK.out _ _ (Below.refl _ _) rfl _ rfl
              case q8 =>
                intro wq hbw st  K hK
                have KQ := KW.out.trans (hbw.mono KW.out.size)
                have KE := HBW.out.trans (hbw.mono HBW.out.size)
                simp only [Act.put, List.setIfInBounds_toArray, List.set_cons_zero, List.set_cons_succ] at hK ⊢
                unfold opStep
                rw [if_neg (by change ¬ (false = true); exact Bool.false_ne_true)]
                exact hK.out _ _ (Below.refl _ _) rfl _ rfl
              case q9 =>
                intro wq hbw st  K hK
                have KQ := KW.out.trans (hbw.mono KW.out.size)
                have KE := HBW.out.trans (hbw.mono HBW.out.size)
                simp only [Act.put, List.setIfInBounds_toArray, List.set_cons_zero, List.set_cons_succ] at hK ⊢
                unfold opStep
                rw [if_neg (by change ¬ (false = true); exact Bool.false_ne_true)]
                exact hK.out _ _ (Below.refl _ _) rfl _ rfl
              case q10 =>
                intro wq hbw st  K hK
                have KQ := KW.out.trans (hbw.mono KW.out.size)
                have KE := HBW.out.trans (hbw.mono HBW.out.size)
                simp only [Act.put, List.setIfInBounds_toArray, List.set_cons_zero, List.set_cons_succ] at hK ⊢
                unfold opStep
                rw [if_pos (by rfl)]
                go_simp
                exact hK.out _ _ (Below.refl _ _) rfl _ rfl
              case q11 =>
                intro wq hbw st  K hK
                have KQ := KW.out.trans (hbw.mono KW.out.size)
                have KE := HBW.out.trans (hbw.mono HBW.out.size)
                simp only [Act.put, List.setIfInBounds_toArray, List.set_cons_zero, List.set_cons_succ] at hK ⊢
                unfold opStep
                rw [if_pos (by rfl)]
                go_simp
                exact hK.out _ _ (Below.refl _ _) rfl _ rfl
              case qfin =>
                intro wq hbw
                try simp only [FinAll]
                simp only [Act.put, List.setIfInBounds_toArray, List.set_cons_zero, List.set_cons_succ]
                have H5 := Lib.hid (HBW.out.trans (hbw.mono HBW.out.size))
                clear hbw
                go_wp2
                go_roundg (E.length - (j + 1))
                case measure => have := HM2.out; omega
                case rel => exact ⟨j + 1, by omega, by go_num, by rw [HSN.out], H5.out⟩
          · have hjj : j = E.length := by omega
            subst hjj
            rw [List.take_length] at hnn
            replace HOO := Lib.hid (And.intro (below_row HOO.out.1 HBW.out) (HOO.out.2.trans (HBW.out.mono HOO.out.2.size)))
            by_cases hp : foundE M (n : Int) F E (k : Int) = true
            · rw [hp] at hnn
              subst hnn
              have HPK := Lib.hid hp
              clear hp
              go_wp2_with (at_builtin; refine wpList_append_own _ rfl _ _ 22 rfl wa.heap.size 3 i0 (.int .i64 0) 1 8 Try.underlying22 HI.out.1 HI.out.2.1 HI.out.2.2.1 HI.out.2.2.2 rfl (by decide) _ _ _ rfl (by exact HOO.out.1.alloc _) ⟨_, 0, none⟩ 1 1 [.int .i64 k] rfl rfl (cell_one_new _ _ _) (by intro u hu; simp at hu; subst hu; rfl) (by unfold maxLen; omega) (by omega) (by have := HOO.out.2.size; simp; omega) ?_)
              intro v5 w5 hown5 hgr5 _
              have H5 := Lib.hid (append_one (x := (k : Int)) HOO.out.1 HOO.out.2 (by exact hgr5) hown5)
              clear hown5 hgr5
              go_wp2
              go_roundg (n - (k + 1))
              case measure => have := HM.out; omega
              case rel => exact ⟨k + 1, by omega, by go_num, by rw [HYES.out.1 HPK.out]; exact H5.out.1, H5.out.2⟩
            · rw [Bool.eq_false_iff.2 hp] at hnn
              subst hnn
              have HPK := Lib.hid (Bool.eq_false_iff.2 hp)
              clear hp
              go_wp2
              go_roundg (n - (k + 1))
              case measure => have := HM.out; omega
              case rel => exact ⟨k + 1, by omega, by go_num, by rw [HYES.out.2 HPK.out]; exact HOO.out.1, HOO.out.2⟩
      · have hkk : k = n := by omega
        subst hkk
        go_wp2
        go_ret
        exact ⟨_, rfl, by rw [HPE.out]; exact Reads.of_owns HOO.out.1, KW.out⟩
  · have HOK := Lib.hid (Bool.eq_false_iff.2 hok)
    clear hok
    go_enter Try.func23, Try.ntmps23
    go_wp2_with fail
    refine (rinterval_any _ vB vC M R F B C _ (HG.out.1.on ((Below.refl _ _).alloc (Nat.le_refl _) _)) (HG.out.2.1.on ((Below.refl _ _).alloc (Nat.le_refl _) _)) (HG.out.2.2.1.on ((Below.refl _ _).alloc (Nat.le_refl _) _)) hB hC h7).mono ?_
    rintro e w2 ⟨vI, rfl, hr, hb⟩
    have KB := Lib.hid ((Blk.new W 25 #[.int .i64 M, .int .i64 R, .slice a1 n1 k1, .int .i64 cl, .slice a2 n2 k2, .slice a3 n3 k3]).on hb)
    have KW := Lib.hid (((Below.refl W.heap.size W).alloc (Nat.le_refl _) (.cells #[.int .i64 M, .int .i64 R, .slice a1 n1 k1, .int .i64 cl, .slice a2 n2 k2, .slice a3 n3 k3] 25)).trans (hb.mono (by simp)))
    clear hb
    obtain ⟨c0, c1, c2, c3, c4, c5, hlt⟩ := blk6 KB.out
    rw [HOK.out]
    clear hr
    go_wp2
    go_ret
    exact reachE_made HOK.out KW.out
end Go.Proofs.Ytahpecbcpgjinaa
