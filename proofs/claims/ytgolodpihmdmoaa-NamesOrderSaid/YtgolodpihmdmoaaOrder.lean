/-
  NamesOrder: for every three lists the law returns true, and the lists read behind the call as before. No condition.
-/
import Derived.Test.YtgolodpihmdmoaaNs
import Derived.Test.YtgolodpihmdmoaaLp
namespace Go.Proofs.Ytgolodpihmdmoaa.namesOrder
open Go.ChangeShapes Go.WideShapes Go.ChangeAt Go.RowKit

theorem cmpN_anti (a b : Nat) : cmpN b a = 0 - cmpN a b := by unfold cmpN; split <;> split <;> omega
theorem lex_anti : ∀ (xs ys : List Str), lexL ys xs = 0 - lexL xs ys
  | [], [] => rfl
  | [], _ :: _ => rfl
  | _ :: _, [] => rfl
  | x :: xs, y :: ys => by
    rw [lexL, lexL, lex_anti xs ys]
    by_cases h1 : x < y
    · rw [if_neg (slt_asymm h1), if_pos h1, if_pos h1]; rfl
    · by_cases h2 : y < x
      · rw [if_pos h2, if_neg h1, if_pos h2]; rfl
      · rw [if_neg h2, if_neg h1, if_neg h1, if_neg h2]
theorem cmp_anti (xs ys : List Str) : cmpL ys xs = 0 - cmpL xs ys := by
  unfold cmpL
  rw [cmpN_anti xs.length ys.length, lex_anti xs ys]
  by_cases h : cmpN xs.length ys.length = 0
  · rw [if_neg (by rw [h]; simp), if_neg (by simp [h])]
  · rw [if_pos (by omega), if_pos h]
theorem lex_zero : ∀ (xs ys : List Str), lexL xs ys = 0 ↔ xs = ys
  | [], [] => by simp [lexL]
  | [], _ :: _ => by simp [lexL]
  | _ :: _, [] => by simp [lexL]
  | x :: xs, y :: ys => by
    rw [lexL]
    by_cases h1 : x < y
    · rw [if_pos h1]
      exact ⟨fun h => absurd h (by decide), fun h => absurd h1 (by injection h with h _; rw [h]; exact slt_irrefl y)⟩
    · by_cases h2 : y < x
      · rw [if_neg h1, if_pos h2]
        exact ⟨fun h => absurd h (by decide), fun h => absurd h2 (by injection h with h _; rw [h]; exact slt_irrefl y)⟩
      · rw [if_neg h1, if_neg h2, lex_zero xs ys]
        have hxy : x = y := (slt_tri x y).elim (fun h => absurd h h1) (fun h => h.elim id (fun h => absurd h h2))
        simp [hxy]
theorem cmp_zero (xs ys : List Str) : cmpL xs ys = 0 ↔ xs = ys := by
  unfold cmpL
  by_cases h : cmpN xs.length ys.length = 0
  · rw [if_neg (by simp [h])]; exact lex_zero xs ys
  · rw [if_pos h]
    exact ⟨fun e => absurd e h, fun e => by subst e; exfalso; apply h; unfold cmpN; simp⟩
theorem lex_trans : ∀ (xs ys zs : List Str), lexL xs ys ≤ 0 → lexL ys zs ≤ 0 → lexL xs zs ≤ 0
  | [], _, [], _, _ => by simp [lexL]
  | [], _, _ :: _, _, _ => by simp [lexL]
  | _ :: _, [], _, h, _ => by simp [lexL] at h
  | _ :: _, _ :: _, [], _, h => by simp [lexL] at h
  | x :: xs, y :: ys, z :: zs, h1, h2 => by
    rw [lexL] at h1 h2 ⊢
    by_cases a1 : x < y
    · by_cases b1 : y < z
      · rw [if_pos (slt_trans a1 b1)]; omega
      · rw [if_neg b1] at h2
        by_cases b2 : z < y
        · rw [if_pos b2] at h2; omega
        · have : y = z := (slt_tri y z).elim (fun h => absurd h b1) (fun h => h.elim id (fun h => absurd h b2))
          subst this
          rw [if_pos a1]; omega
    · rw [if_neg a1] at h1
      by_cases a2 : y < x
      · rw [if_pos a2] at h1; omega
      · have : x = y := (slt_tri x y).elim (fun h => absurd h a1) (fun h => h.elim id (fun h => absurd h a2))
        subst this
        rw [if_neg a2] at h1
        by_cases b1 : x < z
        · rw [if_pos b1]; omega
        · rw [if_neg b1] at h2 ⊢
          by_cases b2 : z < x
          · rw [if_pos b2] at h2; omega
          · rw [if_neg b2] at h2 ⊢
            exact lex_trans xs ys zs h1 h2
theorem cmpL_lt {xs ys : List Str} (h : xs.length < ys.length) : cmpL xs ys = -1 := by unfold cmpL cmpN; rw [if_pos h]; rfl
theorem cmpL_gt {xs ys : List Str} (h : ys.length < xs.length) : cmpL xs ys = 1 := by unfold cmpL cmpN; rw [if_neg (show ¬ xs.length < ys.length by omega), if_pos h]; rfl
theorem cmpL_eq {xs ys : List Str} (h : xs.length = ys.length) : cmpL xs ys = lexL xs ys := by
  unfold cmpL cmpN; rw [if_neg (show ¬ xs.length < ys.length by omega), if_neg (show ¬ ys.length < xs.length by omega)]; rfl
theorem cmp_trans (xs ys zs : List Str) (h1 : cmpL xs ys ≤ 0) (h2 : cmpL ys zs ≤ 0) : cmpL xs zs ≤ 0 := by
  have f1 : ¬ ys.length < xs.length := fun a => by rw [cmpL_gt a] at h1; omega
  have f2 : ¬ zs.length < ys.length := fun a => by rw [cmpL_gt a] at h2; omega
  rcases Nat.lt_or_ge xs.length zs.length with h | h
  · rw [cmpL_lt h]; omega
  · rw [cmpL_eq (by omega)] at h1 h2 ⊢
    exact lex_trans xs ys zs h1 h2
theorem cmp_strict (xs ys zs : List Str) (h1 : cmpL xs ys ≤ 0) (h2 : cmpL ys zs ≤ 0) (h : cmpL xs zs = 0) : cmpL xs ys = 0 ∧ cmpL ys zs = 0 := by
  have e := (cmp_zero xs zs).1 h
  subst e
  have := cmp_anti xs ys
  omega
theorem sub_sublist : ∀ (ys xs : List Str), xs.Pairwise (· < ·) → ys.Pairwise (· < ·) → (∀ s ∈ xs, s ∈ ys) → xs.Sublist ys
  | [], xs, _, _, h => by
    have : xs = [] := List.eq_nil_iff_forall_not_mem.2 fun s hs => by have := h s hs; simp at this
    rw [this]; exact List.Sublist.refl _
  | y :: ys, [], _, _, _ => List.nil_sublist _
  | y :: ys, x :: xs, hx, hy, h => by
    rw [List.pairwise_cons] at hx hy
    have hnx : ∀ s ∈ xs, s ≠ x := fun s hs e => slt_irrefl x (by have := hx.1 s hs; rw [e] at this; exact this)
    rcases List.mem_cons.1 (h x (by simp)) with e | hm
    · subst e
      exact (sub_sublist ys xs hx.2 hy.2 (fun s hs => (List.mem_cons.1 (h s (by simp [hs]))).elim (fun e => absurd e (hnx s hs)) id)).cons_cons x
    · have hyx := hy.1 x hm
      refine (sub_sublist ys (x :: xs) (List.pairwise_cons.2 hx) hy.2 (fun s hs => ?_)).cons y
      rcases List.mem_cons.1 (h s hs) with e | hm2
      · exfalso
        subst e
        rcases List.mem_cons.1 hs with e | hs
        · rw [e] at hyx; exact slt_irrefl _ hyx
        · exact slt_irrefl _ (slt_trans hyx (hx.1 s hs))
      · exact hm2
theorem sub_less (xs ys : List Str) (h : ∀ s ∈ xs, s ∈ ys) (hn : ¬ ∀ s ∈ ys, s ∈ xs) : cmpL (ofL xs) (ofL ys) = -1 := by
  have hs := sub_sublist (ofL ys) (ofL xs) (ofL_sorted xs) (ofL_sorted ys) (fun s hs => (mem_ofL ys s).2 (h s ((mem_ofL xs s).1 hs)))
  have hl := hs.length_le
  have hlt : (ofL xs).length < (ofL ys).length := by
    rcases Nat.lt_or_ge (ofL xs).length (ofL ys).length with h' | h'
    · exact h'
    · exfalso
      have e := hs.eq_of_length (by omega)
      exact hn fun s hs => (mem_ofL xs s).1 (by rw [e]; exact (mem_ofL ys s).2 hs)
  unfold cmpL cmpN
  rw [if_pos hlt]; rfl

def Fine (w : World) (e : Ending) (w' : World) : Prop := e = .returned (.bool true) ∧ Below w.heap.size w w'

theorem cmpN_bd (a b : Nat) : -1 ≤ cmpN a b ∧ cmpN a b ≤ 1 := by unfold cmpN; split <;> (try split) <;> omega
theorem lex_bd : ∀ (xs ys : List Str), -1 ≤ lexL xs ys ∧ lexL xs ys ≤ 1
  | [], [] => by simp [lexL]
  | [], _ :: _ => by simp [lexL]
  | _ :: _, [] => by simp [lexL]
  | x :: xs, y :: ys => by
    rw [lexL]
    split
    · omega
    · split
      · omega
      · exact lex_bd xs ys
theorem cmp_bd (xs ys : List Str) : -1 ≤ cmpL xs ys ∧ cmpL xs ys ≤ 1 := by
  unfold cmpL
  split
  · exact cmpN_bd _ _
  · exact lex_bd _ _

set_option maxRecDepth 100000 in
set_option maxHeartbeats 8000000 in
theorem walk (v : Value) (xs : List Str) (W : World) (hr : Reads vs W v xs) (hs : ∀ x ∈ xs, x.length ≤ maxLen) (u : Value) (ys : List Str) (hq : Reads vs W u ys) (ht : ∀ x ∈ ys, x.length ≤ maxLen)
    (z : Value) (zs : List Str) (hz : Reads vs W z zs) (hy : ∀ x ∈ zs, x.length ≤ maxLen) : Calls Try.prog 10 #[v, u, z] W (Fine W) := by
  have hsm1 := small_any v xs W hr hs
  have hsm2 := small_any u ys W hq ht
  have hsm3 := small_any z zs W hz hy
  clear hs ht hy
  by_cases h1 : Small xs
  · rw [decide_eq_true h1] at hsm1
    have S1 := Lib.hid hsm1
    clear hsm1
    by_cases h2 : Small ys
    · rw [decide_eq_true h2] at hsm2
      have S2 := Lib.hid hsm2
      clear hsm2
      by_cases h3 : Small zs
      · rw [decide_eq_true h3] at hsm3
        have S3 := Lib.hid hsm3
        clear hsm3
        have N := Lib.hid (And.intro h1.1 (And.intro h2.1 h3.1))
        clear h1 h2 h3
        have k1 := cmp_bd (ofL xs) (ofL ys)
        have k4 := cmp_anti (ofL xs) (ofL ys)
        have k5 : decide (ofL xs = ofL ys) = (cmpL (ofL xs) (ofL ys) == 0) := by
          rw [Bool.eq_iff_iff, decide_eq_true_eq, beq_iff_eq]; exact (cmp_zero _ _).symm
        have k6 := cmp_trans (ofL xs) (ofL ys) (ofL zs)
        have k7 := cmp_strict (ofL xs) (ofL ys) (ofL zs)
        have k8 : subB xs ys = true → subB ys xs = false → cmpL (ofL xs) (ofL ys) = -1 := fun a b => sub_less xs ys (of_decide_eq_true a) (of_decide_eq_false b)
        generalize hcx : cmpL (ofL xs) (ofL ys) = cx at *
        generalize hcy : cmpL (ofL ys) (ofL zs) = cy at *
        generalize hcz : cmpL (ofL xs) (ofL zs) = cz at *
        have K := Lib.hid (And.intro hcx (And.intro hcy (And.intro hcz (And.intro k4 (And.intro k5 (And.intro k6 (And.intro k7 k8)))))))
        have kb1 := k1.1
        have kb2 := k1.2
        have kq1 : (cx == cx) = true := beq_self_eq_true _
        have kq2 : (cx != cx) = false := by rw [bne, kq1]; rfl
        have kq3 : (0 - cx == 0 - cx) = true := beq_self_eq_true _
        have kq4 : (0 - cx != 0 - cx) = false := by rw [bne, kq3]; rfl
        have kq5 : ((cx == 0) != (cx == 0)) = false := by rw [bne, beq_self_eq_true]; rfl
        clear hcx hcy hcz k1 k4 k5 k6 k7 k8
        have R0 := Lib.hid (And.intro (hr) (And.intro (hq) (hz)))
        have B0 := Lib.hid (Below.refl W.heap.size W)
        clear hr hq hz
        go_enter Try.func10, Try.ntmps10
        go_wp2_with fail
        refine S1.out.mono ?_
        rintro e w0x ⟨rfl, rfl⟩
        go_wp2_with fail
        refine S2.out.mono ?_
        rintro e w0x ⟨rfl, rfl⟩
        go_wp2_with fail
        refine S3.out.mono ?_
        rintro e w0x ⟨rfl, rfl⟩
        go_wp2_with fail
        refine (compare_any v u xs ys _ (R0.out.1) (R0.out.2.1) (by have := N.out; omega) (by have := N.out; omega)).mono ?_
        rintro e w1 ⟨rfl, hb1⟩
        have B1 := Lib.hid (B0.out.trans (Below.mono hb1 B0.out.size))
        have R1 := Lib.hid (And.intro (((R0.out.1).keep hb1)) (And.intro (((R0.out.2.1).keep hb1)) (((R0.out.2.2).keep hb1))))
        clear hb1
        rw [K.out.1]
        go_wp2_with fail
        refine (compare_any u z ys zs _ (R1.out.2.1) (R1.out.2.2) (by have := N.out; omega) (by have := N.out; omega)).mono ?_
        rintro e w2 ⟨rfl, hb2⟩
        have B2 := Lib.hid (B1.out.trans (Below.mono hb2 B1.out.size))
        have R2 := Lib.hid (And.intro (((R1.out.1).keep hb2)) (And.intro (((R1.out.2.1).keep hb2)) (((R1.out.2.2).keep hb2))))
        clear hb2
        rw [K.out.2.1]
        go_wp2_with fail
        refine (compare_any v z xs zs _ (R2.out.1) (R2.out.2.2) (by have := N.out; omega) (by have := N.out; omega)).mono ?_
        rintro e w3 ⟨rfl, hb3⟩
        have B3 := Lib.hid (B2.out.trans (Below.mono hb3 B2.out.size))
        have R3 := Lib.hid (And.intro (((R2.out.1).keep hb3)) (And.intro (((R2.out.2.1).keep hb3)) (((R2.out.2.2).keep hb3))))
        clear hb3
        rw [K.out.2.2.1]
        go_wp2_with fail
        refine (rcompare_any v u xs ys _ (R3.out.1) (R3.out.2.1) (by have := N.out; omega) (by have := N.out; omega)).mono ?_
        rintro e w4 ⟨rfl, hb4⟩
        have B4 := Lib.hid (B3.out.trans (Below.mono hb4 B3.out.size))
        have R4 := Lib.hid (And.intro (((R3.out.1).keep hb4)) (And.intro (((R3.out.2.1).keep hb4)) (((R3.out.2.2).keep hb4))))
        clear hb4
        rw [K.out.1]
        go_wp2_with fail
        refine (compare_any u v ys xs _ (R4.out.2.1) (R4.out.1) (by have := N.out; omega) (by have := N.out; omega)).mono ?_
        rintro e w5 ⟨rfl, hb5⟩
        have B5 := Lib.hid (B4.out.trans (Below.mono hb5 B4.out.size))
        have R5 := Lib.hid (And.intro (((R4.out.1).keep hb5)) (And.intro (((R4.out.2.1).keep hb5)) (((R4.out.2.2).keep hb5))))
        clear hb5
        rw [K.out.2.2.2.1]
        go_wp2_with fail
        refine (of_any v xs _ (R5.out.1) (by have := N.out; omega)).mono ?_
        rintro e w6 ⟨x6, rfl, hr6, hb6⟩
        have B6 := Lib.hid (B5.out.trans (Below.mono hb6 B5.out.size))
        have R6 := Lib.hid (And.intro (((R5.out.1).keep hb6)) (And.intro (((R5.out.2.1).keep hb6)) (And.intro (((R5.out.2.2).keep hb6)) ((Reads.of_owns hr6)))))
        clear hr6 hb6
        go_wp2_with fail
        refine (of_any u ys _ (R6.out.2.1) (by have := N.out; omega)).mono ?_
        rintro e w7 ⟨x7, rfl, hr7, hb7⟩
        have B7 := Lib.hid (B6.out.trans (Below.mono hb7 B6.out.size))
        have R7 := Lib.hid (And.intro (((R6.out.1).keep hb7)) (And.intro (((R6.out.2.1).keep hb7)) (And.intro (((R6.out.2.2.1).keep hb7)) (And.intro (((R6.out.2.2.2).keep hb7)) ((Reads.of_owns hr7))))))
        clear hr7 hb7
        go_wp2_with fail
        refine (rsame_any x6 x7 (ofL xs) (ofL ys) _ (R7.out.2.2.2.1) (R7.out.2.2.2.2)).mono ?_
        rintro e w8 ⟨rfl, hd8⟩
        have B8 := Lib.hid (B7.out.trans (Below.mono (hd8.below (B := W.heap.size)) (Nat.le_refl _)))
        have R8 := Lib.hid (And.intro (((R7.out.1).keep hd8.below)) (And.intro (((R7.out.2.1).keep hd8.below)) (And.intro (((R7.out.2.2.1).keep hd8.below)) (And.intro (((R7.out.2.2.2.1).keep hd8.below)) (((R7.out.2.2.2.2).keep hd8.below))))))
        clear hd8
        rw [K.out.2.2.2.2.1]
        by_cases c1 : cx ≤ 0
        · by_cases c2 : cy ≤ 0
          · have c3 := K.out.2.2.2.2.2.1 c1 c2
            by_cases c4 : cz = 0
            · have c5 := K.out.2.2.2.2.2.2.1 c1 c2 c4
              have c6 : (cz == 0) = true := beq_iff_eq.2 c4
              have c7 : (cx == 0) = true := beq_iff_eq.2 c5.1
              have c8 : (cy == 0) = true := beq_iff_eq.2 c5.2
              have c9 : (cx != 0) = false := by rw [bne, c7]; rfl
              have c10 : (cy != 0) = false := by rw [bne, c8]; rfl
              clear c4 c5
              go_wp2_with fail
              refine (awake_any _).mono ?_
              rintro e w9 ⟨rfl, hba⟩
              have B9 := Lib.hid (B8.out.trans (Below.mono hba B8.out.size))
              have R9 := Lib.hid (And.intro (((R8.out.1).keep hba)) (And.intro (((R8.out.2.1).keep hba)) (And.intro (((R8.out.2.2.1).keep hba)) (And.intro (((R8.out.2.2.2.1).keep hba)) (((R8.out.2.2.2.2).keep hba))))))
              clear hba
              have t1 := subset_any v u xs ys _ (R9.out.1) (R9.out.2.1)
              have t2 := subset_any u v ys xs _ (R9.out.2.1) (R9.out.1)
              by_cases q1 : subB xs ys = true
              · rw [q1] at t1
                by_cases q2 : subB ys xs = true
                · rw [q2] at t2
                  have T1 := Lib.hid t1
                  have T2 := Lib.hid t2
                  clear t1 t2 q1 q2
                  go_wp2_with fail
                  refine T1.out.mono ?_
                  rintro e w0x ⟨rfl, rfl⟩
                  go_wp2_with fail
                  refine T2.out.mono ?_
                  rintro e w0x ⟨rfl, rfl⟩
                  go_wp2
                  go_ret
                  exact ⟨rfl, B9.out⟩
                · have q3 : subB ys xs = false := by simpa using q2
                  rw [q3] at t2
                  have q4 : cx = -1 := K.out.2.2.2.2.2.2.2 q1 q3
                  have q5 : (cx == -1) = true := beq_iff_eq.2 q4
                  have T1 := Lib.hid t1
                  have T2 := Lib.hid t2
                  clear t1 t2 q1 q2 q3 q4
                  go_wp2_with fail
                  refine T1.out.mono ?_
                  rintro e w0x ⟨rfl, rfl⟩
                  go_wp2_with fail
                  refine T2.out.mono ?_
                  rintro e w0x ⟨rfl, rfl⟩
                  go_wp2
                  go_ret
                  exact ⟨rfl, B9.out⟩
              · have q3 : subB xs ys = false := by simpa using q1
                rw [q3] at t1
                have T1 := Lib.hid t1
                clear t1 t2 q1 q3
                go_wp2_with fail
                refine T1.out.mono ?_
                rintro e w0x ⟨rfl, rfl⟩
                go_wp2
                go_ret
                exact ⟨rfl, B9.out⟩
            · have c6 : (cz == 0) = false := beq_eq_false_iff_ne.2 c4
              go_wp2_with fail
              refine (awake_any _).mono ?_
              rintro e w9 ⟨rfl, hba⟩
              have B9 := Lib.hid (B8.out.trans (Below.mono hba B8.out.size))
              have R9 := Lib.hid (And.intro (((R8.out.1).keep hba)) (And.intro (((R8.out.2.1).keep hba)) (And.intro (((R8.out.2.2.1).keep hba)) (And.intro (((R8.out.2.2.2.1).keep hba)) (((R8.out.2.2.2.2).keep hba))))))
              clear hba
              have t1 := subset_any v u xs ys _ (R9.out.1) (R9.out.2.1)
              have t2 := subset_any u v ys xs _ (R9.out.2.1) (R9.out.1)
              by_cases q1 : subB xs ys = true
              · rw [q1] at t1
                by_cases q2 : subB ys xs = true
                · rw [q2] at t2
                  have T1 := Lib.hid t1
                  have T2 := Lib.hid t2
                  clear t1 t2 q1 q2
                  go_wp2_with fail
                  refine T1.out.mono ?_
                  rintro e w0x ⟨rfl, rfl⟩
                  go_wp2_with fail
                  refine T2.out.mono ?_
                  rintro e w0x ⟨rfl, rfl⟩
                  go_wp2
                  go_ret
                  exact ⟨rfl, B9.out⟩
                · have q3 : subB ys xs = false := by simpa using q2
                  rw [q3] at t2
                  have q4 : cx = -1 := K.out.2.2.2.2.2.2.2 q1 q3
                  have q5 : (cx == -1) = true := beq_iff_eq.2 q4
                  have T1 := Lib.hid t1
                  have T2 := Lib.hid t2
                  clear t1 t2 q1 q2 q3 q4
                  go_wp2_with fail
                  refine T1.out.mono ?_
                  rintro e w0x ⟨rfl, rfl⟩
                  go_wp2_with fail
                  refine T2.out.mono ?_
                  rintro e w0x ⟨rfl, rfl⟩
                  go_wp2
                  go_ret
                  exact ⟨rfl, B9.out⟩
              · have q3 : subB xs ys = false := by simpa using q1
                rw [q3] at t1
                have T1 := Lib.hid t1
                clear t1 t2 q1 q3
                go_wp2_with fail
                refine T1.out.mono ?_
                rintro e w0x ⟨rfl, rfl⟩
                go_wp2
                go_ret
                exact ⟨rfl, B9.out⟩
          · skip
            skip
            go_wp2_with fail
            refine (awake_any _).mono ?_
            rintro e w9 ⟨rfl, hba⟩
            have B9 := Lib.hid (B8.out.trans (Below.mono hba B8.out.size))
            have R9 := Lib.hid (And.intro (((R8.out.1).keep hba)) (And.intro (((R8.out.2.1).keep hba)) (And.intro (((R8.out.2.2.1).keep hba)) (And.intro (((R8.out.2.2.2.1).keep hba)) (((R8.out.2.2.2.2).keep hba))))))
            clear hba
            have t1 := subset_any v u xs ys _ (R9.out.1) (R9.out.2.1)
            have t2 := subset_any u v ys xs _ (R9.out.2.1) (R9.out.1)
            by_cases q1 : subB xs ys = true
            · rw [q1] at t1
              by_cases q2 : subB ys xs = true
              · rw [q2] at t2
                have T1 := Lib.hid t1
                have T2 := Lib.hid t2
                clear t1 t2 q1 q2
                go_wp2_with fail
                refine T1.out.mono ?_
                rintro e w0x ⟨rfl, rfl⟩
                go_wp2_with fail
                refine T2.out.mono ?_
                rintro e w0x ⟨rfl, rfl⟩
                go_wp2
                go_ret
                exact ⟨rfl, B9.out⟩
              · have q3 : subB ys xs = false := by simpa using q2
                rw [q3] at t2
                have q4 : cx = -1 := K.out.2.2.2.2.2.2.2 q1 q3
                have q5 : (cx == -1) = true := beq_iff_eq.2 q4
                have T1 := Lib.hid t1
                have T2 := Lib.hid t2
                clear t1 t2 q1 q2 q3 q4
                go_wp2_with fail
                refine T1.out.mono ?_
                rintro e w0x ⟨rfl, rfl⟩
                go_wp2_with fail
                refine T2.out.mono ?_
                rintro e w0x ⟨rfl, rfl⟩
                go_wp2
                go_ret
                exact ⟨rfl, B9.out⟩
            · have q3 : subB xs ys = false := by simpa using q1
              rw [q3] at t1
              have T1 := Lib.hid t1
              clear t1 t2 q1 q3
              go_wp2_with fail
              refine T1.out.mono ?_
              rintro e w0x ⟨rfl, rfl⟩
              go_wp2
              go_ret
              exact ⟨rfl, B9.out⟩
        · skip
          skip
          go_wp2_with fail
          refine (awake_any _).mono ?_
          rintro e w9 ⟨rfl, hba⟩
          have B9 := Lib.hid (B8.out.trans (Below.mono hba B8.out.size))
          have R9 := Lib.hid (And.intro (((R8.out.1).keep hba)) (And.intro (((R8.out.2.1).keep hba)) (And.intro (((R8.out.2.2.1).keep hba)) (And.intro (((R8.out.2.2.2.1).keep hba)) (((R8.out.2.2.2.2).keep hba))))))
          clear hba
          have t1 := subset_any v u xs ys _ (R9.out.1) (R9.out.2.1)
          have t2 := subset_any u v ys xs _ (R9.out.2.1) (R9.out.1)
          by_cases q1 : subB xs ys = true
          · rw [q1] at t1
            by_cases q2 : subB ys xs = true
            · rw [q2] at t2
              have T1 := Lib.hid t1
              have T2 := Lib.hid t2
              clear t1 t2 q1 q2
              go_wp2_with fail
              refine T1.out.mono ?_
              rintro e w0x ⟨rfl, rfl⟩
              go_wp2_with fail
              refine T2.out.mono ?_
              rintro e w0x ⟨rfl, rfl⟩
              go_wp2
              go_ret
              exact ⟨rfl, B9.out⟩
            · have q3 : subB ys xs = false := by simpa using q2
              rw [q3] at t2
              have q4 : cx = -1 := K.out.2.2.2.2.2.2.2 q1 q3
              have q5 : (cx == -1) = true := beq_iff_eq.2 q4
              have T1 := Lib.hid t1
              have T2 := Lib.hid t2
              clear t1 t2 q1 q2 q3 q4
              go_wp2_with fail
              refine T1.out.mono ?_
              rintro e w0x ⟨rfl, rfl⟩
              go_wp2_with fail
              refine T2.out.mono ?_
              rintro e w0x ⟨rfl, rfl⟩
              go_wp2
              go_ret
              exact ⟨rfl, B9.out⟩
          · have q3 : subB xs ys = false := by simpa using q1
            rw [q3] at t1
            have T1 := Lib.hid t1
            clear t1 t2 q1 q3
            go_wp2_with fail
            refine T1.out.mono ?_
            rintro e w0x ⟨rfl, rfl⟩
            go_wp2
            go_ret
            exact ⟨rfl, B9.out⟩
      · rw [decide_eq_false h3] at hsm3
        have S3 := Lib.hid hsm3
        clear hsm3
        go_enter Try.func10, Try.ntmps10
        go_wp2_with fail
        refine S1.out.mono ?_
        rintro e w0x ⟨rfl, rfl⟩
        go_wp2_with fail
        refine S2.out.mono ?_
        rintro e w0x ⟨rfl, rfl⟩
        go_wp2_with fail
        refine S3.out.mono ?_
        rintro e w0x ⟨rfl, rfl⟩
        go_wp2_with fail
        refine (awake_any _).mono ?_
        rintro e w1 ⟨rfl, hb1⟩
        have B1 := Lib.hid hb1
        clear hb1
        go_wp2
        go_ret
        exact ⟨rfl, B1.out⟩
    · rw [decide_eq_false h2] at hsm2
      have S2 := Lib.hid hsm2
      clear hsm2
      go_enter Try.func10, Try.ntmps10
      go_wp2_with fail
      refine S1.out.mono ?_
      rintro e w0x ⟨rfl, rfl⟩
      go_wp2_with fail
      refine S2.out.mono ?_
      rintro e w0x ⟨rfl, rfl⟩
      go_wp2_with fail
      refine (awake_any _).mono ?_
      rintro e w1 ⟨rfl, hb1⟩
      have B1 := Lib.hid hb1
      clear hb1
      go_wp2
      go_ret
      exact ⟨rfl, B1.out⟩
  · rw [decide_eq_false h1] at hsm1
    have S1 := Lib.hid hsm1
    clear hsm1
    go_enter Try.func10, Try.ntmps10
    go_wp2_with fail
    refine S1.out.mono ?_
    rintro e w0x ⟨rfl, rfl⟩
    go_wp2_with fail
    refine (awake_any _).mono ?_
    rintro e w1 ⟨rfl, hb1⟩
    have B1 := Lib.hid hb1
    clear hb1
    go_wp2
    go_ret
    exact ⟨rfl, B1.out⟩

set_option maxRecDepth 100000 in
theorem lifted (os : Os) (started : os.Started) (H : Type) (enc : TypeId × Value → H) :
    ReturnsInHanded {} Try.checked os 10 .any (Rows.namesOrderSpec.pre6 enc Try.prog Try.f10 Rows.namesOrderRow.domain false) (Rows.namesOrderSpec.post enc Try.prog Try.f10 false true false false) := by
  refine returnsInHanded_of_change (C := Try.checked) own started (by kernel_rfl) Try.func10
    (ChangeSpec.witness6 (enc := enc) (C := Try.checked) false ⟨#[], #[.slice none 0 0, .slice none 0 0, .slice none 0 0], []⟩ 8 (by kernel_rfl) (by kernel_rfl) (by kernel_rfl) (by kernel_rfl)) ?_
  intro W base args ds gs before hval0 hW hcnd _
  have hval : ∀ (j : Nat) t v, Try.f10.params[j]? = some t → args[j]? = some v → Value.okWide Try.prog W .any base t v := hval0
  have hW' := hW
  obtain ⟨p, q, hA0, hV, rfl, hfz, hnd⟩ := hW
  have hA : DataW.TrodAll enc Try.prog W 0 (fun _ => true) true Try.f10.params.toList args.toList ds p := hA0
  rw [Try.params10] at hA hval
  obtain ⟨v0, vs0, d0, ds0, p0, q0, hargs, rfl, rfl, h0, r0⟩ := trodAll_cons hA
  obtain ⟨v1, vs1, d1, ds1, p1, q1, rfl, rfl, rfl, h1, r1⟩ := trodAll_cons r0
  obtain ⟨v2, vs2, d2, ds2, p2, q2, rfl, rfl, rfl, h2, r2⟩ := trodAll_cons r1
  obtain ⟨rfl, rfl, rfl⟩ := trodAll_nil r2
  obtain rfl : args = #[v0, v1, v2] := by cases args; simp_all
  obtain ⟨rfl, rfl⟩ := trodVars_none hV
  obtain ⟨xs0, hr0, hl0⟩ := open_reads (hval 0 24 v0 rfl rfl) h0
  obtain ⟨xs1, hr1, hl1⟩ := open_reads (hval 1 24 v1 rfl rfl) h1
  obtain ⟨xs2, hr2, hl2⟩ := open_reads (hval 2 24 v2 rfl rfl) h2
  refine (walk v0 xs0 W hr0 hl0 v1 xs1 hr1 hl1 v2 xs2 hr2 hl2).mono fun e W' ⟨he, hb⟩ => ?_
  subst he
  exact ⟨_, rfl, law_post laidOut rfl (fun _ _ => rfl) (by kernel_rfl) Try.underlying4 (by rw [Try.params10]; exact fun t ht => by simp at ht; rcases ht with  rfl ; all_goals exact ⟨by kernel_rfl, of_decide_eq_true (by kernel_rfl)⟩) hW' hb⟩

theorem over : Rows.namesOrderRow.holds Try.pinned (OpenSpec.ofChange Rows.namesOrderSpec) :=
  OpenClaim.holds_of_wide 10 Try.f10 rfl rfl rfl rfl rfl rfl rfl ⟨rfl, rfl, rfl, rfl, rfl⟩ rfl rfl rfl rfl rfl (by kernel_rfl) Try.func10 (by kernel_rfl)
    (of_decide_eq_true (by kernel_rfl)) (by unfold Func.isWrapper; first | (rw [if_pos (by decide +kernel)]; kernel_rfl) | (rw [if_neg (by decide +kernel)]; exact ⟨rfl, rfl⟩))
    (fun os started H enc _ => lifted os started H enc)

theorem proved : Rows.NamesOrderSaid := over

end Go.Proofs.Ytgolodpihmdmoaa.namesOrder
