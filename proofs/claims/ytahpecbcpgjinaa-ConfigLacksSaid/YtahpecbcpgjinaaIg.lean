/-
  Chapter 39: Part of the reference.
-/
import Derived.Test.YtahpecbcpgjinaaIf
namespace Go.Proofs.Ytahpecbcpgjinaa
open Go.RowKit

/-- In how many of these configurations. -/
def inE (R : Int) (F : List Int) (E : List (List Cmd)) (r : Int) : Nat := (E.filter fun D => decide (r ∈ membersR R F D)).length
theorem inE_snoc (R : Int) (F : List Int) {E : List (List Cmd)} {j : Nat} (h : j < E.length) (r : Int) : inE R F (E.take (j + 1)) r = inE R F (E.take j) r + if r ∈ membersR R F E[j] then 1 else 0 := by
  unfold inE
  rw [List.take_succ_eq_append_getElem h, List.filter_append, List.length_append]
  by_cases hm : r ∈ membersR R F E[j] <;> simp [hm]
theorem inE_le (R : Int) (F : List Int) (E : List (List Cmd)) (r : Int) : inE R F E r ≤ E.length := List.length_filter_le _ _
theorem has39_as {v : Value} (xs : List Int) (r : Int) (w : World) {b : Bool} (hr : Reads vi w v xs) (h : decide (r ∈ xs) = b) :
    Calls Try.prog 44 #[v, .int .i64 r] w fun e w' => e = .returned (.bool b) ∧ w = w' := h ▸ has39_any v xs r w hr
theorem partE_made {w w' : World} {M R : Int} {F : List Int} {B C : List Cmd} {ev : Bool} (h : okB M R F B C = false) (hb : Below w.heap.size w w') : MadeI w (partE M R F B C ev) (.returned (.slice none 0 0)) w' :=
  ⟨_, rfl, by unfold partE; rw [h]; exact Reads.nil w', hb⟩

set_option maxRecDepth 100000 in
set_option maxHeartbeats 8000000 in
theorem rpart_any (g vB vC : Value) (M R : Int) (F : List Int) (B C : List Cmd) (W : World) (hg : Gen W g M R F) (hb : ReadsC W vB B) (hc : ReadsC W vC C) (every : Bool) (hB : B.length ≤ 40) (hC : C.length ≤ 40) (h7 : (confL R C).length ≤ (confL R B).length + 7) :
    Calls Try.prog 20 #[g, vB, vC, .bool every] W (MadeI W (partE M R F B C every)) := by
  obtain ⟨i0, hinf, hz0, hz1, hz2⟩ := info_parts Try.infoInt
  have HI := Lib.hid (And.intro hinf (And.intro hz0 (And.intro hz1 hz2)))
  clear hinf hz0 hz1 hz2
  have HG := Lib.hid (And.intro hg (And.intro hb (And.intro hc trivial)))
  obtain ⟨vF, cl, vA, vO, rfl, hF, ⟨a2, n2, k2, rfl⟩, ⟨a3, n3, k3, rfl⟩⟩ := hg
  obtain ⟨a1, n1, k1, rfl⟩ := Slc.of_reads hF
  clear hF hb hc
  unfold gen at *
  by_cases hok : okB M R F B C = true
  · have HOK := Lib.hid hok
    obtain ⟨hM12, ⟨hR1, hR2⟩, hF0, _, hFb⟩ := usable_parts (ok_parts hok).1
    have hE128 := allE_len hok h7
    have HDL := Lib.hid (allE_dlen (R := R) hB hC)
    have HPQ : Hid (∀ r, partP R F B C every r = ((every && decide (inE R F (allE R B C) r = (allE R B C).length)) || (!every && (decide (0 < inE R F (allE R B C) r) && decide (inE R F (allE R B C) r < (allE R B C).length))))) := Lib.hid fun _ => rfl
    obtain ⟨n, rfl⟩ : ∃ n : Nat, R = n := ⟨R.toNat, by omega⟩
    have hn12 : n ≤ 12 := by omega
    have HUS := Lib.hid (And.intro hR1 (And.intro hM12 (And.intro hF0 hFb)))
    have HEE : Hid (∃ E, E = allE (n : Int) B C) := Lib.hid ⟨_, rfl⟩
    clear hok hR1 hR2 hM12 hF0 hFb
    go_enter Try.func20, Try.ntmps20
    go_wp2_with fail
    refine (rinterval_any _ vB vC M n F B C _ (HG.out.1.on ((Below.refl _ _).alloc (Nat.le_refl _) _)) (HG.out.2.1.on ((Below.refl _ _).alloc (Nat.le_refl _) _)) (HG.out.2.2.1.on ((Below.refl _ _).alloc (Nat.le_refl _) _)) hB hC h7).mono ?_
    rintro e w2 ⟨vI, rfl, hr, hb⟩
    have KB := Lib.hid ((Blk.new W 25 #[.int .i64 M, .int .i64 n, .slice a1 n1 k1, .int .i64 cl, .slice a2 n2 k2, .slice a3 n3 k3]).on hb)
    have KW := Lib.hid (((Below.refl W.heap.size W).alloc (Nat.le_refl _) (.cells #[.int .i64 M, .int .i64 n, .slice a1 n1 k1, .int .i64 cl, .slice a2 n2 k2, .slice a3 n3 k3] 25)).trans (hb.mono (by simp)))
    clear hb
    obtain ⟨c0, c1, c2, c3, c4, c5, hlt⟩ := blk6 KB.out
    rw [HOK.out]
    have HE := Lib.hid (hr HOK.out)
    clear hr
    generalize allE (n : Int) B C = E at *
    obtain ⟨aoE, cE, rfl, hE1, hE2, -, -⟩ := HE.out
    unfold maxLen at hE2
    have HPE : Hid (partE M (n : Int) F B C every = upTo (partP (n : Int) F B C every) n) := Lib.hid (by unfold partE; rw [if_pos HOK.out]; rfl)
    go_wp2
    clear c0 c1 c2 c3 c4 c5 hlt
    obtain ⟨wa, hwa⟩ : ∃ x, x = w2 := ⟨_, rfl⟩
    rw [← hwa] at KB KW HE ⊢
    clear hwa
    go_loopg [11, 12] n (fun m o i wr => ∃ k : Nat, m + k = n ∧ i = .int .i64 k ∧ wr.ownsRow wa.heap.size 3 1 o (upTo (partP (n : Int) F B C every) k).length ((upTo (partP (n : Int) F B C every) k).map vi) ∧ Below wa.heap.size wa wr)
    case atStart => exact ⟨0, by omega, rfl, by simp [upTo, World.ownsRow], Below.refl _ _⟩
    case round =>
      obtain ⟨k, hmk, rfl, hown, hbel⟩ := hrel
      have HM := Lib.hid hmk
      have hk : k ≤ n := by omega
      have HOO := Lib.hid (And.intro hown hbel)
      replace KB := Lib.hid (KB.out.on hbel)
      replace KW := Lib.hid (KW.out.trans (hbel.mono KW.out.size))
      replace HE := Lib.hid (HE.out.on hbel)
      obtain ⟨c0, c1, c2, c3, c4, c5, hlt⟩ := blk6 KB.out
      have hol := upTo_len (partP (n : Int) F B C every) k
      have HYES := Lib.hid (And.intro (@upTo_yes (partP (n : Int) F B C every) k) (@upTo_no (partP (n : Int) F B C every) k))
      clear hmk hown hbel
      by_cases hkn : k < n
      · have HPP := HPQ.out (k : Int)
        have HPP := Lib.hid HPP
        generalize partP (n : Int) F B C every (k : Int) = pk at *
        go_wp2
        clear c0 c1 c2 c3 c4 c5 hlt
        obtain ⟨G1, hG1⟩ : ∃ G, G = gk := ⟨_, rfl⟩
        subst hG1
        obtain ⟨wb, hwb⟩ : ∃ x, x = wr := ⟨_, rfl⟩
        rw [← hwb] at HOO KB KW HE ⊢
        clear hwb
        go_loopg [13, 14] E.length (fun m nn i wr => ∃ j : Nat, m + j = E.length ∧ i = .int .i64 j ∧ nn = .int .i64 (inE (n : Int) F (E.take j) k : Nat) ∧ Below wb.heap.size wb wr)
        case atStart => exact ⟨0, by omega, rfl, by simp [inE], Below.refl _ _⟩
        case round =>
          obtain ⟨j, hmj, rfl, hnn, hbel⟩ := hrel
          have HM2 := Lib.hid hmj
          have HBW := Lib.hid hbel
          replace KB := Lib.hid (KB.out.on hbel)
          replace KW := Lib.hid (KW.out.trans (hbel.mono KW.out.size))
          obtain ⟨c0, c1, c2, c3, c4, c5, hlt⟩ := blk6 KB.out
          have hj : j ≤ E.length := by omega
          clear hmj hbel
          by_cases hjlt : j < E.length
          · obtain ⟨bE, offE, capE, u, hv, hE3, hE4, hbE, hcell, hrd⟩ := HE.out.at_ hjlt
            injection hv with e1 e2 e3
            subst e1
            have hdl := HDL.out E[j] (List.getElem_mem _)
            have HCE := Lib.hid (And.intro hcell hrd)
            have hji : (j : Int) < E.length := by omega
            have hj0 : (0 : Int) ≤ (j : Int) := by omega
            clear e2 e3 hcell hrd
            have hsn := inE_snoc (n : Int) F hjlt (k : Int)
            have hle := inE_le (n : Int) F (E.take j) (k : Int)
            have hle2 : (E.take j).length ≤ E.length := by rw [List.length_take]; omega
            generalize E[j] = D at *
            generalize inE (n : Int) F (E.take j) (k : Int) = q at *
            subst hnn
            by_cases hm : (k : Int) ∈ membersR (n : Int) F D
            · rw [if_pos hm] at hsn
              have HSN := Lib.hid hsn
              have HMM := Lib.hid (decide_eq_true hm)
              clear hsn hm
              go_wp2
              refine region_left [.is (.agg #[.int .i64 M, .int .i64 n, .slice a1 n1 k1, .int .i64 cl, .slice a2 n2 k2, .slice a3 n3 k3]), .is (.slice (some ⟨bE, offE, none⟩) E.length cE), .is (.int .i64 j), .is (.pointer (some ⟨bE, offE + j, none⟩)), .is u, leftReads vi (membersR (n : Int) F D), .is (.int .i64 k), .is (.bool true)] (by kernel_rfl) rfl (by kernel_rfl) (by kernel_rfl) (.cons ?q0 (.cons ?q1 (.cons ?q2 (.cons ?q3 (.cons ?q4 (.cons ?q5 (.cons ?q6 (.cons ?q7 .nil)))))))) ?qfin
              case q0 =>
                intro wq hbw st  K hK
                have KQ := KW.out.trans (hbw.mono KW.out.size)
                have KE := HBW.out.trans (hbw.mono HBW.out.size)
                simp only [Act.put, List.setIfInBounds_toArray, List.set_cons_zero, List.set_cons_succ] at hK ⊢
                unfold opStep
                rw [if_pos (by rfl)]
                obtain ⟨d0, d1, d2, d3, d4, d5, dlt⟩ := blk6 (KB.out.on hbw)
                go_simp
                exact hK.out _ _ (Below.refl _ _) rfl _ rfl
              case q1 =>
                intro wq hbw st  K hK
                have KQ := KW.out.trans (hbw.mono KW.out.size)
                have KE := HBW.out.trans (hbw.mono HBW.out.size)
                simp only [Act.put, List.setIfInBounds_toArray, List.set_cons_zero, List.set_cons_succ] at hK ⊢
                unfold opStep
                rw [if_pos (by rfl)]
                go_simp
                exact hK.out _ _ (Below.refl _ _) rfl _ rfl
              case q2 =>
                intro wq hbw st  K hK
                have KQ := KW.out.trans (hbw.mono KW.out.size)
                have KE := HBW.out.trans (hbw.mono HBW.out.size)
                simp only [Act.put, List.setIfInBounds_toArray, List.set_cons_zero, List.set_cons_succ] at hK ⊢
                unfold opStep
                rw [if_pos (by rfl)]
                go_simp
                exact hK.out _ _ (Below.refl _ _) rfl _ rfl
              case q3 =>
                intro wq hbw st  K hK
                have KQ := KW.out.trans (hbw.mono KW.out.size)
                have KE := HBW.out.trans (hbw.mono HBW.out.size)
                simp only [Act.put, List.setIfInBounds_toArray, List.set_cons_zero, List.set_cons_succ] at hK ⊢
                unfold opStep
                rw [if_pos (by rfl)]
                go_simp
                exact hK.out _ _ (Below.refl _ _) rfl _ rfl
              case q4 =>
                intro wq hbw st  K hK
                have KQ := KW.out.trans (hbw.mono KW.out.size)
                have KE := HBW.out.trans (hbw.mono HBW.out.size)
                simp only [Act.put, List.setIfInBounds_toArray, List.set_cons_zero, List.set_cons_succ] at hK ⊢
                unfold opStep
                rw [if_pos (by rfl)]
                have q0 := (KE.cell (p := ⟨bE, offE + j, none⟩) hbE).trans HCE.out.1
                go_simp
                exact hK.out _ _ (Below.refl _ _) rfl _ rfl
              case q5 =>
                intro wq hbw st  K hK
                have KQ := KW.out.trans (hbw.mono KW.out.size)
                have KE := HBW.out.trans (hbw.mono HBW.out.size)
                simp only [Act.put, List.setIfInBounds_toArray, List.set_cons_zero, List.set_cons_succ] at hK ⊢
                unfold opStep
                rw [if_pos (by rfl)]
                go_simp
                refine (replicas_any _ u M (n : Int) F D _ (HG.out.1.on KQ) (HCE.out.2.on KE) ⟨HUS.out.1, by omega⟩).mono ?_
                rintro e wz ⟨v, rfl, hr, hbz⟩
                go_simp
                exact hK.out _ _ hbz hr _ rfl
              case q6 =>
                intro wq hbw st  K hK
                have KQ := KW.out.trans (hbw.mono KW.out.size)
                have KE := HBW.out.trans (hbw.mono HBW.out.size)
                simp only [Act.put, List.setIfInBounds_toArray, List.set_cons_zero, List.set_cons_succ] at hK ⊢
                unfold opStep
                rw [if_pos (by rfl)]
                go_simp
                exact hK.out _ _ (Below.refl _ _) rfl _ rfl
              case q7 =>
                intro wq hbw st x5 h5 K hK
                have KQ := KW.out.trans (hbw.mono KW.out.size)
                have KE := HBW.out.trans (hbw.mono HBW.out.size)
                simp only [Act.put, List.setIfInBounds_toArray, List.set_cons_zero, List.set_cons_succ] at hK ⊢
                unfold opStep
                rw [if_pos (by rfl)]
                go_simp
                refine (has39_as (membersR (n : Int) F D) k _ h5 HMM.out).mono ?_
                rintro e wz ⟨rfl, rfl⟩
                go_simp
                exact hK.out _ _ (Below.refl _ _) rfl _ rfl
              case qfin =>
                intro wq hbw
                intro x5 h5
                try simp only [FinAll]
                simp only [Act.put, List.setIfInBounds_toArray, List.set_cons_zero, List.set_cons_succ]
                have H5 := Lib.hid (HBW.out.trans (hbw.mono HBW.out.size))
                clear hbw
                go_wp2
                go_roundg (E.length - (j + 1))
                case measure => have := HM2.out; omega
                case rel => exact ⟨j + 1, by omega, by go_num, by rw [HSN.out]; go_num, H5.out⟩
            · rw [if_neg hm] at hsn
              have HSN := Lib.hid hsn
              have HMM := Lib.hid (decide_eq_false hm)
              clear hsn hm
              go_wp2
              refine region_left [.is (.agg #[.int .i64 M, .int .i64 n, .slice a1 n1 k1, .int .i64 cl, .slice a2 n2 k2, .slice a3 n3 k3]), .is (.slice (some ⟨bE, offE, none⟩) E.length cE), .is (.int .i64 j), .is (.pointer (some ⟨bE, offE + j, none⟩)), .is u, leftReads vi (membersR (n : Int) F D), .is (.int .i64 k), .is (.bool false)] (by kernel_rfl) rfl (by kernel_rfl) (by kernel_rfl) (.cons ?q0 (.cons ?q1 (.cons ?q2 (.cons ?q3 (.cons ?q4 (.cons ?q5 (.cons ?q6 (.cons ?q7 .nil)))))))) ?qfin
              case q0 =>
                intro wq hbw st  K hK
                have KQ := KW.out.trans (hbw.mono KW.out.size)
                have KE := HBW.out.trans (hbw.mono HBW.out.size)
                simp only [Act.put, List.setIfInBounds_toArray, List.set_cons_zero, List.set_cons_succ] at hK ⊢
                unfold opStep
                rw [if_pos (by rfl)]
                obtain ⟨d0, d1, d2, d3, d4, d5, dlt⟩ := blk6 (KB.out.on hbw)
                go_simp
                exact hK.out _ _ (Below.refl _ _) rfl _ rfl
              case q1 =>
                intro wq hbw st  K hK
                have KQ := KW.out.trans (hbw.mono KW.out.size)
                have KE := HBW.out.trans (hbw.mono HBW.out.size)
                simp only [Act.put, List.setIfInBounds_toArray, List.set_cons_zero, List.set_cons_succ] at hK ⊢
                unfold opStep
                rw [if_pos (by rfl)]
                go_simp
                exact hK.out _ _ (Below.refl _ _) rfl _ rfl
              case q2 =>
                intro wq hbw st  K hK
                have KQ := KW.out.trans (hbw.mono KW.out.size)
                have KE := HBW.out.trans (hbw.mono HBW.out.size)
                simp only [Act.put, List.setIfInBounds_toArray, List.set_cons_zero, List.set_cons_succ] at hK ⊢
                unfold opStep
                rw [if_pos (by rfl)]
                go_simp
                exact hK.out _ _ (Below.refl _ _) rfl _ rfl
              case q3 =>
                intro wq hbw st  K hK
                have KQ := KW.out.trans (hbw.mono KW.out.size)
                have KE := HBW.out.trans (hbw.mono HBW.out.size)
                simp only [Act.put, List.setIfInBounds_toArray, List.set_cons_zero, List.set_cons_succ] at hK ⊢
                unfold opStep
                rw [if_pos (by rfl)]
                go_simp
                exact hK.out _ _ (Below.refl _ _) rfl _ rfl
              case q4 =>
                intro wq hbw st  K hK
                have KQ := KW.out.trans (hbw.mono KW.out.size)
                have KE := HBW.out.trans (hbw.mono HBW.out.size)
                simp only [Act.put, List.setIfInBounds_toArray, List.set_cons_zero, List.set_cons_succ] at hK ⊢
                unfold opStep
                rw [if_pos (by rfl)]
                have q0 := (KE.cell (p := ⟨bE, offE + j, none⟩) hbE).trans HCE.out.1
                go_simp
                exact hK.out _ _ (Below.refl _ _) rfl _ rfl
              case q5 =>
                intro wq hbw st  K hK
                have KQ := KW.out.trans (hbw.mono KW.out.size)
                have KE := HBW.out.trans (hbw.mono HBW.out.size)
                simp only [Act.put, List.setIfInBounds_toArray, List.set_cons_zero, List.set_cons_succ] at hK ⊢
                unfold opStep
                rw [if_pos (by rfl)]
                go_simp
                refine (replicas_any _ u M (n : Int) F D _ (HG.out.1.on KQ) (HCE.out.2.on KE) ⟨HUS.out.1, by omega⟩).mono ?_
                rintro e wz ⟨v, rfl, hr, hbz⟩
                go_simp
                exact hK.out _ _ hbz hr _ rfl
              case q6 =>
                intro wq hbw st  K hK
                have KQ := KW.out.trans (hbw.mono KW.out.size)
                have KE := HBW.out.trans (hbw.mono HBW.out.size)
                simp only [Act.put, List.setIfInBounds_toArray, List.set_cons_zero, List.set_cons_succ] at hK ⊢
                unfold opStep
                rw [if_pos (by rfl)]
                go_simp
                exact hK.out _ _ (Below.refl _ _) rfl _ rfl
              case q7 =>
                intro wq hbw st x5 h5 K hK
                have KQ := KW.out.trans (hbw.mono KW.out.size)
                have KE := HBW.out.trans (hbw.mono HBW.out.size)
                simp only [Act.put, List.setIfInBounds_toArray, List.set_cons_zero, List.set_cons_succ] at hK ⊢
                unfold opStep
                rw [if_pos (by rfl)]
                go_simp
                refine (has39_as (membersR (n : Int) F D) k _ h5 HMM.out).mono ?_
                rintro e wz ⟨rfl, rfl⟩
                go_simp
                exact hK.out _ _ (Below.refl _ _) rfl _ rfl
              case qfin =>
                intro wq hbw
                intro x5 h5
                try simp only [FinAll]
                simp only [Act.put, List.setIfInBounds_toArray, List.set_cons_zero, List.set_cons_succ]
                have H5 := Lib.hid (HBW.out.trans (hbw.mono HBW.out.size))
                clear hbw
                go_wp2
                go_roundg (E.length - (j + 1))
                case measure => have := HM2.out; omega
                case rel => exact ⟨j + 1, by omega, by go_num, by rw [HSN.out]; go_num, H5.out⟩
          · have hjj : j = E.length := by omega
            subst hjj
            rw [List.take_length] at hnn
            have hle := inE_le (n : Int) F E (k : Int)
            have HP : Hid (pk = ((every && decide (inE (n : Int) F E k = E.length)) || (!every && (decide (0 < inE (n : Int) F E k) && decide (inE (n : Int) F E k < E.length))))) := HPP
            generalize inE (n : Int) F E (k : Int) = q at *
            subst hnn
            replace HOO := Lib.hid (And.intro (below_row HOO.out.1 HBW.out) (HOO.out.2.trans (HBW.out.mono HOO.out.2.size)))
            clear HPP
            cases every
            · by_cases hq0 : 0 < q
              · by_cases hq1 : q < E.length
                · have z0 : decide (0 < q) = true := decide_eq_true hq0
                  have y0 : decide ((0 : Int) < (q : Int)) = true := decide_eq_true (by omega)
                  have z1 : decide (q < E.length) = true := decide_eq_true hq1
                  have y1 : decide ((q : Int) < (E.length : Int)) = true := decide_eq_true (by omega)
                  have HPK : Hid (pk = true) := Lib.hid (by rw [HP.out]; simp [z0, z1])
                  clear HP
                  go_wp2_with (at_builtin; refine wpList_append_own _ rfl _ _ 22 rfl wa.heap.size 3 i0 (.int .i64 0) 1 8 Try.underlying22 HI.out.1 HI.out.2.1 HI.out.2.2.1 HI.out.2.2.2 rfl (by decide) _ _ _ rfl (by exact HOO.out.1.alloc _) ⟨_, 0, none⟩ 1 1 [.int .i64 k] rfl rfl (cell_one_new _ _ _) (by intro u hu; simp at hu; subst hu; rfl) (by unfold maxLen; omega) (by omega) (by have := HOO.out.2.size; simp; omega) ?_)
                  intro v5 w5 hown5 hgr5 _
                  have H5 := Lib.hid (append_one (x := (k : Int)) HOO.out.1 HOO.out.2 (by exact hgr5) hown5)
                  clear hown5 hgr5
                  go_wp2
                  go_roundg (n - (k + 1))
                  case measure => have := HM.out; omega
                  case rel => exact ⟨k + 1, by omega, by go_num, by rw [HYES.out.1 HPK.out]; exact H5.out.1, H5.out.2⟩
                · have z0 : decide (0 < q) = true := decide_eq_true hq0
                  have y0 : decide ((0 : Int) < (q : Int)) = true := decide_eq_true (by omega)
                  have z1 : decide (q < E.length) = false := decide_eq_false hq1
                  have y1 : decide ((q : Int) < (E.length : Int)) = false := decide_eq_false (by omega)
                  have HPK : Hid (pk = false) := Lib.hid (by rw [HP.out]; simp [z0, z1])
                  clear HP
                  go_wp2
                  go_roundg (n - (k + 1))
                  case measure => have := HM.out; omega
                  case rel => exact ⟨k + 1, by omega, by go_num, by rw [HYES.out.2 HPK.out]; exact HOO.out.1, HOO.out.2⟩
              · have z0 : decide (0 < q) = false := decide_eq_false hq0
                have y0 : decide ((0 : Int) < (q : Int)) = false := decide_eq_false (by omega)
                have HPK : Hid (pk = false) := Lib.hid (by rw [HP.out]; simp [z0])
                clear HP
                go_wp2
                go_roundg (n - (k + 1))
                case measure => have := HM.out; omega
                case rel => exact ⟨k + 1, by omega, by go_num, by rw [HYES.out.2 HPK.out]; exact HOO.out.1, HOO.out.2⟩
            · by_cases hq0 : q = E.length
              · have z0 : decide (q = E.length) = true := decide_eq_true hq0
                have y0 : ((q : Int) == (E.length : Int)) = true := beq_iff_eq.2 (by omega)
                have y1 : (q == E.length) = true := beq_iff_eq.2 hq0
                have HQ0 := Lib.hid hq0
                clear hq0
                have HPK : Hid (pk = true) := Lib.hid (by rw [HP.out]; simp [z0])
                clear HP
                go_wp2_with (at_builtin; refine wpList_append_own _ rfl _ _ 22 rfl wa.heap.size 3 i0 (.int .i64 0) 1 8 Try.underlying22 HI.out.1 HI.out.2.1 HI.out.2.2.1 HI.out.2.2.2 rfl (by decide) _ _ _ rfl (by exact HOO.out.1.alloc _) ⟨_, 0, none⟩ 1 1 [.int .i64 k] rfl rfl (cell_one_new _ _ _) (by intro u hu; simp at hu; subst hu; rfl) (by unfold maxLen; omega) (by omega) (by have := HOO.out.2.size; simp; omega) ?_)
                intro v5 w5 hown5 hgr5 _
                have H5 := Lib.hid (append_one (x := (k : Int)) HOO.out.1 HOO.out.2 (by exact hgr5) hown5)
                clear hown5 hgr5
                go_wp2
                go_roundg (n - (k + 1))
                case measure => have := HM.out; omega
                case rel => exact ⟨k + 1, by omega, by go_num, by rw [HYES.out.1 HPK.out]; exact H5.out.1, H5.out.2⟩
              · have z0 : decide (q = E.length) = false := decide_eq_false hq0
                have y0 : ((q : Int) == (E.length : Int)) = false := beq_eq_false_iff_ne.2 (by omega)
                have y1 : (q == E.length) = false := beq_eq_false_iff_ne.2 hq0
                have HPK : Hid (pk = false) := Lib.hid (by rw [HP.out]; simp [z0])
                clear HP
                go_wp2
                go_roundg (n - (k + 1))
                case measure => have := HM.out; omega
                case rel => exact ⟨k + 1, by omega, by go_num, by rw [HYES.out.2 HPK.out]; exact HOO.out.1, HOO.out.2⟩
      · have hkk : k = n := by omega
        subst hkk
        go_wp2
        go_ret
        exact ⟨_, rfl, by rw [HPE.out]; exact Reads.of_owns HOO.out.1, KW.out⟩
  · have HOK := Lib.hid (Bool.eq_false_iff.2 hok)
    clear hok
    go_enter Try.func20, Try.ntmps20
    go_wp2_with fail
    refine (rinterval_any _ vB vC M R F B C _ (HG.out.1.on ((Below.refl _ _).alloc (Nat.le_refl _) _)) (HG.out.2.1.on ((Below.refl _ _).alloc (Nat.le_refl _) _)) (HG.out.2.2.1.on ((Below.refl _ _).alloc (Nat.le_refl _) _)) hB hC h7).mono ?_
    rintro e w2 ⟨vI, rfl, hr, hb⟩
    have KB := Lib.hid ((Blk.new W 25 #[.int .i64 M, .int .i64 R, .slice a1 n1 k1, .int .i64 cl, .slice a2 n2 k2, .slice a3 n3 k3]).on hb)
    have KW := Lib.hid (((Below.refl W.heap.size W).alloc (Nat.le_refl _) (.cells #[.int .i64 M, .int .i64 R, .slice a1 n1 k1, .int .i64 cl, .slice a2 n2 k2, .slice a3 n3 k3] 25)).trans (hb.mono (by simp)))
    clear hb
    obtain ⟨c0, c1, c2, c3, c4, c5, hlt⟩ := blk6 KB.out
    rw [HOK.out]
    clear hr
    go_wp2
    go_ret
    exact partE_made HOK.out KW.out
end Go.Proofs.Ytahpecbcpgjinaa
