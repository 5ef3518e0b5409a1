/-
  Chapter 54: Precedes and the form of an operation, of the program and of the reference.
-/
import Derived.Test.YtjijlhjggpibjaaGreatHa
namespace Go.Proofs.YtjijlhjggpibjaaGreat
open Go.RowKit

set_option maxHeartbeats 1000000 in
theorem prec_any (v u : Value) (a b : Opn) (w : World) (ha : OpAt w v a) (hb : OpAt w u b) : Calls Tryz.prog 43 #[v, u] w (BoolMade w (precB a b)) := by
  obtain ⟨va, vz, rfl, r1, r2⟩ := ha
  obtain ⟨ua, uz, rfl, s1, s2⟩ := hb
  obtain ⟨x1, y1, z1, rfl⟩ := Slc.of_reads r1
  obtain ⟨x2, y2, z2, rfl⟩ := Slc.of_reads r2
  obtain ⟨x3, y3, z3, rfl⟩ := Slc.of_reads s1
  obtain ⟨x4, y4, z4, rfl⟩ := Slc.of_reads s2
  clear r1 r2 s1 s2
  unfold opV
  have hp : precB a b = decide (¬ endO a = -1 ∧ endO a < begO b) := rfl
  generalize precB a b = p at *
  generalize cliO a = a0 at *
  generalize kindO a = a1 at *
  generalize begO a = a2 at *
  generalize endO a = a3 at *
  generalize cliO b = b0 at *
  generalize kindO b = b1 at *
  generalize begO b = b2 at *
  generalize endO b = b3 at *
  by_cases h1 : a3 = -1
  · have hr : Hid (p = false) := Lib.hid (hp.trans (decide_eq_false fun h => h.1 h1))
    have e1 := bne_f h1
    clear hp h1
    go_enter Tryz.func43, Tryz.ntmps43
    go_wp2
    go_ret
    exact ⟨ret_bool hr.out.symm, below_two _ _ _⟩
  · have e1 := bne_t h1
    by_cases h2 : a3 < b2
    · have hr : Hid (p = true) := Lib.hid (hp.trans (decide_eq_true ⟨h1, h2⟩))
      clear hp h1
      go_enter Tryz.func43, Tryz.ntmps43
      go_wp2
      go_ret
      exact ⟨ret_bool hr.out.symm, below_two _ _ _⟩
    · have hr : Hid (p = false) := Lib.hid (hp.trans (decide_eq_false fun h => h2 h.2))
      clear hp h1
      go_enter Tryz.func43, Tryz.ntmps43
      go_wp2
      go_ret
      exact ⟨ret_bool hr.out.symm, below_two _ _ _⟩

set_option maxHeartbeats 1000000 in
theorem rprec_any (v u : Value) (a b : Opn) (w : World) (ha : OpAt w v a) (hb : OpAt w u b) : Calls Tryz.prog 60 #[v, u] w (BoolMade w (precB a b)) := by
  obtain ⟨va, vz, rfl, r1, r2⟩ := ha
  obtain ⟨ua, uz, rfl, s1, s2⟩ := hb
  obtain ⟨x1, y1, z1, rfl⟩ := Slc.of_reads r1
  obtain ⟨x2, y2, z2, rfl⟩ := Slc.of_reads r2
  obtain ⟨x3, y3, z3, rfl⟩ := Slc.of_reads s1
  obtain ⟨x4, y4, z4, rfl⟩ := Slc.of_reads s2
  clear r1 r2 s1 s2
  unfold opV
  have hp : precB a b = decide (¬ endO a = -1 ∧ endO a < begO b) := rfl
  generalize precB a b = p at *
  generalize cliO a = a0 at *
  generalize kindO a = a1 at *
  generalize begO a = a2 at *
  generalize endO a = a3 at *
  generalize cliO b = b0 at *
  generalize kindO b = b1 at *
  generalize begO b = b2 at *
  generalize endO b = b3 at *
  by_cases h1 : a3 = -1
  · have hr : Hid (p = false) := Lib.hid (hp.trans (decide_eq_false fun h => h.1 h1))
    have e1 := bne_f h1
    clear hp h1
    go_enter Tryz.func60, Tryz.ntmps60
    go_wp2
    go_ret
    exact ⟨ret_bool hr.out.symm, below_two _ _ _⟩
  · have e1 := bne_t h1
    by_cases h2 : a3 < b2
    · have hr : Hid (p = true) := Lib.hid (hp.trans (decide_eq_true ⟨h1, h2⟩))
      clear hp h1
      go_enter Tryz.func60, Tryz.ntmps60
      go_wp2
      go_ret
      exact ⟨ret_bool hr.out.symm, below_two _ _ _⟩
    · have hr : Hid (p = false) := Lib.hid (hp.trans (decide_eq_false fun h => h2 h.2))
      clear hp h1
      go_enter Tryz.func60, Tryz.ntmps60
      go_wp2
      go_ret
      exact ⟨ret_bool hr.out.symm, below_two _ _ _⟩

set_option maxHeartbeats 4000000 in
theorem formed_any (v : Value) (o : Opn) (w : World) (ho : OpAt w v o) : Calls Tryz.prog 52 #[v] w (BoolMade w (formB o)) := by
  obtain ⟨va, vz, rfl, r1, r2⟩ := ho
  have HR := Lib.hid (And.intro r1 r2)
  obtain ⟨x1, cx1, rfl, _, hm1, _, _⟩ := r1
  obtain ⟨x2, cx2, rfl, _, hm2, _, _⟩ := r2
  unfold opV
  unfold maxLen at hm1 hm2
  have HF : Hid (formB o = decide (0 ≤ cliO o ∧ 0 ≤ begO o ∧ (endO o = -1 ∨ begO o < endO o) ∧ incB (addO o) = true ∧ incB (seeO o) = true ∧ ((kindO o = 1 ∧ addO o ≠ [] ∧ seeO o = []) ∨ (kindO o = 2 ∧ addO o = [] ∧ (¬ endO o = -1 ∨ seeO o = []))))) := Lib.hid rfl
  generalize formB o = fb at *
  generalize cliO o = a0 at *
  generalize kindO o = a1 at *
  generalize begO o = a2 at *
  generalize endO o = a3 at *
  generalize addO o = la at *
  generalize seeO o = ls at *
  by_cases h1 : a0 < 0
  · have HQ : Hid (fb = false) := Lib.hid (HF.out.trans (decide_eq_false (fun h => absurd h.1 (by omega))))
    clear HF 
    go_enter Tryz.func52, Tryz.ntmps52
    go_wp2
    go_ret
    exact ⟨ret_bool HQ.out.symm, (Below.refl _ _).alloc (Nat.le_refl _) _⟩
  · by_cases h2 : a2 < 0
    · have HQ : Hid (fb = false) := Lib.hid (HF.out.trans (decide_eq_false (fun h => absurd h.2.1 (by omega))))
      clear HF 
      go_enter Tryz.func52, Tryz.ntmps52
      go_wp2
      go_ret
      exact ⟨ret_bool HQ.out.symm, (Below.refl _ _).alloc (Nat.le_refl _) _⟩
    · by_cases h3 : a3 = -1
      · have e3 := bne_f h3
        by_cases h5 : incB la = true
        · have HS1 := Lib.hid h5
          by_cases h6 : incB ls = true
          · have HS2 := Lib.hid h6
            by_cases h7 : a1 = 1
            · have e7 := beq_t h7
              by_cases h8 : la = []
              · have e8 : decide ((0 : Int) < (la.length : Int)) = false := by rw [h8]; rfl
                have e8n : decide (0 < la.length) = false := by rw [h8]; rfl
                have HQ : Hid (fb = false) := Lib.hid (HF.out.trans (decide_eq_false (fun h => h.2.2.2.2.2.elim (fun h => h.2.1 h8) fun h => absurd h.1 (by omega))))
                clear HF h3 h5 h6 h7 h8
                go_enter Tryz.func52, Tryz.ntmps52
                go_wp2_with fail
                refine (sorted_any _ la _ ((HR.out.1).keep ((Below.refl _ _).alloc (Nat.le_refl _) _))).mono ?_
                rintro e w2 ⟨rfl, hd⟩
                have KB := Lib.hid ((Blk.new w 39 #[.int .i64 a0, .int .i64 a1, .int .i64 a2, .int .i64 a3, .slice x1 la.length cx1, .slice x2 ls.length cx2]).on hd.below)
                have KW := Lib.hid (((Below.refl w.heap.size w).alloc (Nat.le_refl _) (.cells #[.int .i64 a0, .int .i64 a1, .int .i64 a2, .int .i64 a3, .slice x1 la.length cx1, .slice x2 ls.length cx2] 39)).trans hd.below)
                clear hd
                obtain ⟨c0, c1, c2, c3, c4, c5, hlt⟩ := blk6 KB.out
                rw [HS1.out]
                go_wp2_with fail
                refine (sorted_any _ ls _ ((HR.out.2).keep KW.out)).mono ?_
                rintro e w3 ⟨rfl, hd⟩
                replace KB := Lib.hid (KB.out.on hd.below)
                replace KW := Lib.hid (KW.out.trans hd.below)
                clear hd c0 c1 c2 c3 c4 c5 hlt
                obtain ⟨c0, c1, c2, c3, c4, c5, hlt⟩ := blk6 KB.out
                rw [HS2.out]
                go_wp2
                go_ret
                exact ⟨ret_bool HQ.out.symm, KW.out⟩
              · have hp := List.length_pos_iff.2 h8
                have e8 : decide ((0 : Int) < (la.length : Int)) = true := decide_eq_true (by omega)
                have e8n : decide (0 < la.length) = true := decide_eq_true hp
                by_cases h9 : ls = []
                · have e9 : ((ls.length : Int) == 0) = true := by rw [h9]; rfl
                  have e9n : (ls.length == 0) = true := by rw [h9]; rfl
                  have HQ : Hid (fb = true) := Lib.hid (HF.out.trans (decide_eq_true (⟨by omega, by omega, (.inl h3), h5, h6, .inl ⟨h7, h8, h9⟩⟩)))
                  clear HF h3 h5 h6 h7 h8 h9
                  go_enter Tryz.func52, Tryz.ntmps52
                  go_wp2_with fail
                  refine (sorted_any _ la _ ((HR.out.1).keep ((Below.refl _ _).alloc (Nat.le_refl _) _))).mono ?_
                  rintro e w2 ⟨rfl, hd⟩
                  have KB := Lib.hid ((Blk.new w 39 #[.int .i64 a0, .int .i64 a1, .int .i64 a2, .int .i64 a3, .slice x1 la.length cx1, .slice x2 ls.length cx2]).on hd.below)
                  have KW := Lib.hid (((Below.refl w.heap.size w).alloc (Nat.le_refl _) (.cells #[.int .i64 a0, .int .i64 a1, .int .i64 a2, .int .i64 a3, .slice x1 la.length cx1, .slice x2 ls.length cx2] 39)).trans hd.below)
                  clear hd
                  obtain ⟨c0, c1, c2, c3, c4, c5, hlt⟩ := blk6 KB.out
                  rw [HS1.out]
                  go_wp2_with fail
                  refine (sorted_any _ ls _ ((HR.out.2).keep KW.out)).mono ?_
                  rintro e w3 ⟨rfl, hd⟩
                  replace KB := Lib.hid (KB.out.on hd.below)
                  replace KW := Lib.hid (KW.out.trans hd.below)
                  clear hd c0 c1 c2 c3 c4 c5 hlt
                  obtain ⟨c0, c1, c2, c3, c4, c5, hlt⟩ := blk6 KB.out
                  rw [HS2.out]
                  go_wp2
                  go_ret
                  exact ⟨ret_bool HQ.out.symm, KW.out⟩
                · have e9 : ((ls.length : Int) == 0) = false := beq_eq_false_iff_ne.2 (by have := List.length_pos_iff.2 h9; omega)
                  have e9n : (ls.length == 0) = false := beq_eq_false_iff_ne.2 (by have := List.length_pos_iff.2 h9; omega)
                  have HQ : Hid (fb = false) := Lib.hid (HF.out.trans (decide_eq_false (fun h => h.2.2.2.2.2.elim (fun h => h9 h.2.2) fun h => absurd h.1 (by omega))))
                  clear HF h3 h5 h6 h7 h8 h9
                  go_enter Tryz.func52, Tryz.ntmps52
                  go_wp2_with fail
                  refine (sorted_any _ la _ ((HR.out.1).keep ((Below.refl _ _).alloc (Nat.le_refl _) _))).mono ?_
                  rintro e w2 ⟨rfl, hd⟩
                  have KB := Lib.hid ((Blk.new w 39 #[.int .i64 a0, .int .i64 a1, .int .i64 a2, .int .i64 a3, .slice x1 la.length cx1, .slice x2 ls.length cx2]).on hd.below)
                  have KW := Lib.hid (((Below.refl w.heap.size w).alloc (Nat.le_refl _) (.cells #[.int .i64 a0, .int .i64 a1, .int .i64 a2, .int .i64 a3, .slice x1 la.length cx1, .slice x2 ls.length cx2] 39)).trans hd.below)
                  clear hd
                  obtain ⟨c0, c1, c2, c3, c4, c5, hlt⟩ := blk6 KB.out
                  rw [HS1.out]
                  go_wp2_with fail
                  refine (sorted_any _ ls _ ((HR.out.2).keep KW.out)).mono ?_
                  rintro e w3 ⟨rfl, hd⟩
                  replace KB := Lib.hid (KB.out.on hd.below)
                  replace KW := Lib.hid (KW.out.trans hd.below)
                  clear hd c0 c1 c2 c3 c4 c5 hlt
                  obtain ⟨c0, c1, c2, c3, c4, c5, hlt⟩ := blk6 KB.out
                  rw [HS2.out]
                  go_wp2
                  go_ret
                  exact ⟨ret_bool HQ.out.symm, KW.out⟩
            · have e7 := beq_f h7
              by_cases h10 : a1 = 2
              · have e10 := beq_t h10
                by_cases h8 : la = []
                · have e8 : ((la.length : Int) == 0) = true := by rw [h8]; rfl
                  have e8n : (la.length == 0) = true := by rw [h8]; rfl
                  by_cases h9 : ls = []
                  · have e9 : ((ls.length : Int) == 0) = true := by rw [h9]; rfl
                    have e9n : (ls.length == 0) = true := by rw [h9]; rfl
                    have HQ : Hid (fb = true) := Lib.hid (HF.out.trans (decide_eq_true (⟨by omega, by omega, (.inl h3), h5, h6, .inr ⟨h10, h8, .inr h9⟩⟩)))
                    clear HF h3 h5 h6 h7 h8 h10 h9
                    go_enter Tryz.func52, Tryz.ntmps52
                    go_wp2_with fail
                    refine (sorted_any _ la _ ((HR.out.1).keep ((Below.refl _ _).alloc (Nat.le_refl _) _))).mono ?_
                    rintro e w2 ⟨rfl, hd⟩
                    have KB := Lib.hid ((Blk.new w 39 #[.int .i64 a0, .int .i64 a1, .int .i64 a2, .int .i64 a3, .slice x1 la.length cx1, .slice x2 ls.length cx2]).on hd.below)
                    have KW := Lib.hid (((Below.refl w.heap.size w).alloc (Nat.le_refl _) (.cells #[.int .i64 a0, .int .i64 a1, .int .i64 a2, .int .i64 a3, .slice x1 la.length cx1, .slice x2 ls.length cx2] 39)).trans hd.below)
                    clear hd
                    obtain ⟨c0, c1, c2, c3, c4, c5, hlt⟩ := blk6 KB.out
                    rw [HS1.out]
                    go_wp2_with fail
                    refine (sorted_any _ ls _ ((HR.out.2).keep KW.out)).mono ?_
                    rintro e w3 ⟨rfl, hd⟩
                    replace KB := Lib.hid (KB.out.on hd.below)
                    replace KW := Lib.hid (KW.out.trans hd.below)
                    clear hd c0 c1 c2 c3 c4 c5 hlt
                    obtain ⟨c0, c1, c2, c3, c4, c5, hlt⟩ := blk6 KB.out
                    rw [HS2.out]
                    go_wp2
                    go_ret
                    exact ⟨ret_bool HQ.out.symm, KW.out⟩
                  · have e9 : ((ls.length : Int) == 0) = false := beq_eq_false_iff_ne.2 (by have := List.length_pos_iff.2 h9; omega)
                    have e9n : (ls.length == 0) = false := beq_eq_false_iff_ne.2 (by have := List.length_pos_iff.2 h9; omega)
                    have HQ : Hid (fb = false) := Lib.hid (HF.out.trans (decide_eq_false (fun h => h.2.2.2.2.2.elim (fun h => absurd h.1 (by omega)) fun h => h.2.2.elim (fun h => h h3) h9)))
                    clear HF h3 h5 h6 h7 h8 h10 h9
                    go_enter Tryz.func52, Tryz.ntmps52
                    go_wp2_with fail
                    refine (sorted_any _ la _ ((HR.out.1).keep ((Below.refl _ _).alloc (Nat.le_refl _) _))).mono ?_
                    rintro e w2 ⟨rfl, hd⟩
                    have KB := Lib.hid ((Blk.new w 39 #[.int .i64 a0, .int .i64 a1, .int .i64 a2, .int .i64 a3, .slice x1 la.length cx1, .slice x2 ls.length cx2]).on hd.below)
                    have KW := Lib.hid (((Below.refl w.heap.size w).alloc (Nat.le_refl _) (.cells #[.int .i64 a0, .int .i64 a1, .int .i64 a2, .int .i64 a3, .slice x1 la.length cx1, .slice x2 ls.length cx2] 39)).trans hd.below)
                    clear hd
                    obtain ⟨c0, c1, c2, c3, c4, c5, hlt⟩ := blk6 KB.out
                    rw [HS1.out]
                    go_wp2_with fail
                    refine (sorted_any _ ls _ ((HR.out.2).keep KW.out)).mono ?_
                    rintro e w3 ⟨rfl, hd⟩
                    replace KB := Lib.hid (KB.out.on hd.below)
                    replace KW := Lib.hid (KW.out.trans hd.below)
                    clear hd c0 c1 c2 c3 c4 c5 hlt
                    obtain ⟨c0, c1, c2, c3, c4, c5, hlt⟩ := blk6 KB.out
                    rw [HS2.out]
                    go_wp2
                    go_ret
                    exact ⟨ret_bool HQ.out.symm, KW.out⟩
                · have e8 : ((la.length : Int) == 0) = false := beq_eq_false_iff_ne.2 (by have := List.length_pos_iff.2 h8; omega)
                  have e8n : (la.length == 0) = false := beq_eq_false_iff_ne.2 (by have := List.length_pos_iff.2 h8; omega)
                  have HQ : Hid (fb = false) := Lib.hid (HF.out.trans (decide_eq_false (fun h => h.2.2.2.2.2.elim (fun h => absurd h.1 (by omega)) fun h => h8 h.2.1)))
                  clear HF h3 h5 h6 h7 h8 h10
                  go_enter Tryz.func52, Tryz.ntmps52
                  go_wp2_with fail
                  refine (sorted_any _ la _ ((HR.out.1).keep ((Below.refl _ _).alloc (Nat.le_refl _) _))).mono ?_
                  rintro e w2 ⟨rfl, hd⟩
                  have KB := Lib.hid ((Blk.new w 39 #[.int .i64 a0, .int .i64 a1, .int .i64 a2, .int .i64 a3, .slice x1 la.length cx1, .slice x2 ls.length cx2]).on hd.below)
                  have KW := Lib.hid (((Below.refl w.heap.size w).alloc (Nat.le_refl _) (.cells #[.int .i64 a0, .int .i64 a1, .int .i64 a2, .int .i64 a3, .slice x1 la.length cx1, .slice x2 ls.length cx2] 39)).trans hd.below)
                  clear hd
                  obtain ⟨c0, c1, c2, c3, c4, c5, hlt⟩ := blk6 KB.out
                  rw [HS1.out]
                  go_wp2_with fail
                  refine (sorted_any _ ls _ ((HR.out.2).keep KW.out)).mono ?_
                  rintro e w3 ⟨rfl, hd⟩
                  replace KB := Lib.hid (KB.out.on hd.below)
                  replace KW := Lib.hid (KW.out.trans hd.below)
                  clear hd c0 c1 c2 c3 c4 c5 hlt
                  obtain ⟨c0, c1, c2, c3, c4, c5, hlt⟩ := blk6 KB.out
                  rw [HS2.out]
                  go_wp2
                  go_ret
                  exact ⟨ret_bool HQ.out.symm, KW.out⟩
              · have e10 := beq_f h10
                have HQ : Hid (fb = false) := Lib.hid (HF.out.trans (decide_eq_false (fun h => h.2.2.2.2.2.elim (fun h => h7 h.1) fun h => h10 h.1)))
                clear HF h3 h5 h6 h7 h10
                go_enter Tryz.func52, Tryz.ntmps52
                go_wp2_with fail
                refine (sorted_any _ la _ ((HR.out.1).keep ((Below.refl _ _).alloc (Nat.le_refl _) _))).mono ?_
                rintro e w2 ⟨rfl, hd⟩
                have KB := Lib.hid ((Blk.new w 39 #[.int .i64 a0, .int .i64 a1, .int .i64 a2, .int .i64 a3, .slice x1 la.length cx1, .slice x2 ls.length cx2]).on hd.below)
                have KW := Lib.hid (((Below.refl w.heap.size w).alloc (Nat.le_refl _) (.cells #[.int .i64 a0, .int .i64 a1, .int .i64 a2, .int .i64 a3, .slice x1 la.length cx1, .slice x2 ls.length cx2] 39)).trans hd.below)
                clear hd
                obtain ⟨c0, c1, c2, c3, c4, c5, hlt⟩ := blk6 KB.out
                rw [HS1.out]
                go_wp2_with fail
                refine (sorted_any _ ls _ ((HR.out.2).keep KW.out)).mono ?_
                rintro e w3 ⟨rfl, hd⟩
                replace KB := Lib.hid (KB.out.on hd.below)
                replace KW := Lib.hid (KW.out.trans hd.below)
                clear hd c0 c1 c2 c3 c4 c5 hlt
                obtain ⟨c0, c1, c2, c3, c4, c5, hlt⟩ := blk6 KB.out
                rw [HS2.out]
                go_wp2
                go_ret
                exact ⟨ret_bool HQ.out.symm, KW.out⟩
          · have HS2 := Lib.hid (Bool.eq_false_iff.2 h6)
            have HQ : Hid (fb = false) := Lib.hid (HF.out.trans (decide_eq_false (fun h => h6 h.2.2.2.2.1)))
            clear HF h3 h5 h6
            go_enter Tryz.func52, Tryz.ntmps52
            go_wp2_with fail
            refine (sorted_any _ la _ ((HR.out.1).keep ((Below.refl _ _).alloc (Nat.le_refl _) _))).mono ?_
            rintro e w2 ⟨rfl, hd⟩
            have KB := Lib.hid ((Blk.new w 39 #[.int .i64 a0, .int .i64 a1, .int .i64 a2, .int .i64 a3, .slice x1 la.length cx1, .slice x2 ls.length cx2]).on hd.below)
            have KW := Lib.hid (((Below.refl w.heap.size w).alloc (Nat.le_refl _) (.cells #[.int .i64 a0, .int .i64 a1, .int .i64 a2, .int .i64 a3, .slice x1 la.length cx1, .slice x2 ls.length cx2] 39)).trans hd.below)
            clear hd
            obtain ⟨c0, c1, c2, c3, c4, c5, hlt⟩ := blk6 KB.out
            rw [HS1.out]
            go_wp2_with fail
            refine (sorted_any _ ls _ ((HR.out.2).keep KW.out)).mono ?_
            rintro e w3 ⟨rfl, hd⟩
            replace KB := Lib.hid (KB.out.on hd.below)
            replace KW := Lib.hid (KW.out.trans hd.below)
            clear hd c0 c1 c2 c3 c4 c5 hlt
            obtain ⟨c0, c1, c2, c3, c4, c5, hlt⟩ := blk6 KB.out
            rw [HS2.out]
            go_wp2
            go_ret
            exact ⟨ret_bool HQ.out.symm, KW.out⟩
        · have HS1 := Lib.hid (Bool.eq_false_iff.2 h5)
          have HQ : Hid (fb = false) := Lib.hid (HF.out.trans (decide_eq_false (fun h => h5 h.2.2.2.1)))
          clear HF h3 h5
          go_enter Tryz.func52, Tryz.ntmps52
          go_wp2_with fail
          refine (sorted_any _ la _ ((HR.out.1).keep ((Below.refl _ _).alloc (Nat.le_refl _) _))).mono ?_
          rintro e w2 ⟨rfl, hd⟩
          have KB := Lib.hid ((Blk.new w 39 #[.int .i64 a0, .int .i64 a1, .int .i64 a2, .int .i64 a3, .slice x1 la.length cx1, .slice x2 ls.length cx2]).on hd.below)
          have KW := Lib.hid (((Below.refl w.heap.size w).alloc (Nat.le_refl _) (.cells #[.int .i64 a0, .int .i64 a1, .int .i64 a2, .int .i64 a3, .slice x1 la.length cx1, .slice x2 ls.length cx2] 39)).trans hd.below)
          clear hd
          obtain ⟨c0, c1, c2, c3, c4, c5, hlt⟩ := blk6 KB.out
          rw [HS1.out]
          go_wp2
          go_ret
          exact ⟨ret_bool HQ.out.symm, KW.out⟩
      · have e3 := bne_t h3
        by_cases h4 : a3 ≤ a2
        · have HQ : Hid (fb = false) := Lib.hid (HF.out.trans (decide_eq_false (fun h => h.2.2.1.elim h3 (by omega))))
          clear HF h3
          go_enter Tryz.func52, Tryz.ntmps52
          go_wp2
          go_ret
          exact ⟨ret_bool HQ.out.symm, (Below.refl _ _).alloc (Nat.le_refl _) _⟩
        · by_cases h5 : incB la = true
          · have HS1 := Lib.hid h5
            by_cases h6 : incB ls = true
            · have HS2 := Lib.hid h6
              by_cases h7 : a1 = 1
              · have e7 := beq_t h7
                by_cases h8 : la = []
                · have e8 : decide ((0 : Int) < (la.length : Int)) = false := by rw [h8]; rfl
                  have e8n : decide (0 < la.length) = false := by rw [h8]; rfl
                  have HQ : Hid (fb = false) := Lib.hid (HF.out.trans (decide_eq_false (fun h => h.2.2.2.2.2.elim (fun h => h.2.1 h8) fun h => absurd h.1 (by omega))))
                  clear HF h3 h5 h6 h7 h8
                  go_enter Tryz.func52, Tryz.ntmps52
                  go_wp2_with fail
                  refine (sorted_any _ la _ ((HR.out.1).keep ((Below.refl _ _).alloc (Nat.le_refl _) _))).mono ?_
                  rintro e w2 ⟨rfl, hd⟩
                  have KB := Lib.hid ((Blk.new w 39 #[.int .i64 a0, .int .i64 a1, .int .i64 a2, .int .i64 a3, .slice x1 la.length cx1, .slice x2 ls.length cx2]).on hd.below)
                  have KW := Lib.hid (((Below.refl w.heap.size w).alloc (Nat.le_refl _) (.cells #[.int .i64 a0, .int .i64 a1, .int .i64 a2, .int .i64 a3, .slice x1 la.length cx1, .slice x2 ls.length cx2] 39)).trans hd.below)
                  clear hd
                  obtain ⟨c0, c1, c2, c3, c4, c5, hlt⟩ := blk6 KB.out
                  rw [HS1.out]
                  go_wp2_with fail
                  refine (sorted_any _ ls _ ((HR.out.2).keep KW.out)).mono ?_
                  rintro e w3 ⟨rfl, hd⟩
                  replace KB := Lib.hid (KB.out.on hd.below)
                  replace KW := Lib.hid (KW.out.trans hd.below)
                  clear hd c0 c1 c2 c3 c4 c5 hlt
                  obtain ⟨c0, c1, c2, c3, c4, c5, hlt⟩ := blk6 KB.out
                  rw [HS2.out]
                  go_wp2
                  go_ret
                  exact ⟨ret_bool HQ.out.symm, KW.out⟩
                · have hp := List.length_pos_iff.2 h8
                  have e8 : decide ((0 : Int) < (la.length : Int)) = true := decide_eq_true (by omega)
                  have e8n : decide (0 < la.length) = true := decide_eq_true hp
                  by_cases h9 : ls = []
                  · have e9 : ((ls.length : Int) == 0) = true := by rw [h9]; rfl
                    have e9n : (ls.length == 0) = true := by rw [h9]; rfl
                    have HQ : Hid (fb = true) := Lib.hid (HF.out.trans (decide_eq_true (⟨by omega, by omega, (.inr (by omega)), h5, h6, .inl ⟨h7, h8, h9⟩⟩)))
                    clear HF h3 h5 h6 h7 h8 h9
                    go_enter Tryz.func52, Tryz.ntmps52
                    go_wp2_with fail
                    refine (sorted_any _ la _ ((HR.out.1).keep ((Below.refl _ _).alloc (Nat.le_refl _) _))).mono ?_
                    rintro e w2 ⟨rfl, hd⟩
                    have KB := Lib.hid ((Blk.new w 39 #[.int .i64 a0, .int .i64 a1, .int .i64 a2, .int .i64 a3, .slice x1 la.length cx1, .slice x2 ls.length cx2]).on hd.below)
                    have KW := Lib.hid (((Below.refl w.heap.size w).alloc (Nat.le_refl _) (.cells #[.int .i64 a0, .int .i64 a1, .int .i64 a2, .int .i64 a3, .slice x1 la.length cx1, .slice x2 ls.length cx2] 39)).trans hd.below)
                    clear hd
                    obtain ⟨c0, c1, c2, c3, c4, c5, hlt⟩ := blk6 KB.out
                    rw [HS1.out]
                    go_wp2_with fail
                    refine (sorted_any _ ls _ ((HR.out.2).keep KW.out)).mono ?_
                    rintro e w3 ⟨rfl, hd⟩
                    replace KB := Lib.hid (KB.out.on hd.below)
                    replace KW := Lib.hid (KW.out.trans hd.below)
                    clear hd c0 c1 c2 c3 c4 c5 hlt
                    obtain ⟨c0, c1, c2, c3, c4, c5, hlt⟩ := blk6 KB.out
                    rw [HS2.out]
                    go_wp2
                    go_ret
                    exact ⟨ret_bool HQ.out.symm, KW.out⟩
                  · have e9 : ((ls.length : Int) == 0) = false := beq_eq_false_iff_ne.2 (by have := List.length_pos_iff.2 h9; omega)
                    have e9n : (ls.length == 0) = false := beq_eq_false_iff_ne.2 (by have := List.length_pos_iff.2 h9; omega)
                    have HQ : Hid (fb = false) := Lib.hid (HF.out.trans (decide_eq_false (fun h => h.2.2.2.2.2.elim (fun h => h9 h.2.2) fun h => absurd h.1 (by omega))))
                    clear HF h3 h5 h6 h7 h8 h9
                    go_enter Tryz.func52, Tryz.ntmps52
                    go_wp2_with fail
                    refine (sorted_any _ la _ ((HR.out.1).keep ((Below.refl _ _).alloc (Nat.le_refl _) _))).mono ?_
                    rintro e w2 ⟨rfl, hd⟩
                    have KB := Lib.hid ((Blk.new w 39 #[.int .i64 a0, .int .i64 a1, .int .i64 a2, .int .i64 a3, .slice x1 la.length cx1, .slice x2 ls.length cx2]).on hd.below)
                    have KW := Lib.hid (((Below.refl w.heap.size w).alloc (Nat.le_refl _) (.cells #[.int .i64 a0, .int .i64 a1, .int .i64 a2, .int .i64 a3, .slice x1 la.length cx1, .slice x2 ls.length cx2] 39)).trans hd.below)
                    clear hd
                    obtain ⟨c0, c1, c2, c3, c4, c5, hlt⟩ := blk6 KB.out
                    rw [HS1.out]
                    go_wp2_with fail
                    refine (sorted_any _ ls _ ((HR.out.2).keep KW.out)).mono ?_
                    rintro e w3 ⟨rfl, hd⟩
                    replace KB := Lib.hid (KB.out.on hd.below)
                    replace KW := Lib.hid (KW.out.trans hd.below)
                    clear hd c0 c1 c2 c3 c4 c5 hlt
                    obtain ⟨c0, c1, c2, c3, c4, c5, hlt⟩ := blk6 KB.out
                    rw [HS2.out]
                    go_wp2
                    go_ret
                    exact ⟨ret_bool HQ.out.symm, KW.out⟩
              · have e7 := beq_f h7
                by_cases h10 : a1 = 2
                · have e10 := beq_t h10
                  by_cases h8 : la = []
                  · have e8 : ((la.length : Int) == 0) = true := by rw [h8]; rfl
                    have e8n : (la.length == 0) = true := by rw [h8]; rfl
                    have HQ : Hid (fb = true) := Lib.hid (HF.out.trans (decide_eq_true (⟨by omega, by omega, (.inr (by omega)), h5, h6, .inr ⟨h10, h8, .inl h3⟩⟩)))
                    clear HF h3 h5 h6 h7 h8 h10
                    go_enter Tryz.func52, Tryz.ntmps52
                    go_wp2_with fail
                    refine (sorted_any _ la _ ((HR.out.1).keep ((Below.refl _ _).alloc (Nat.le_refl _) _))).mono ?_
                    rintro e w2 ⟨rfl, hd⟩
                    have KB := Lib.hid ((Blk.new w 39 #[.int .i64 a0, .int .i64 a1, .int .i64 a2, .int .i64 a3, .slice x1 la.length cx1, .slice x2 ls.length cx2]).on hd.below)
                    have KW := Lib.hid (((Below.refl w.heap.size w).alloc (Nat.le_refl _) (.cells #[.int .i64 a0, .int .i64 a1, .int .i64 a2, .int .i64 a3, .slice x1 la.length cx1, .slice x2 ls.length cx2] 39)).trans hd.below)
                    clear hd
                    obtain ⟨c0, c1, c2, c3, c4, c5, hlt⟩ := blk6 KB.out
                    rw [HS1.out]
                    go_wp2_with fail
                    refine (sorted_any _ ls _ ((HR.out.2).keep KW.out)).mono ?_
                    rintro e w3 ⟨rfl, hd⟩
                    replace KB := Lib.hid (KB.out.on hd.below)
                    replace KW := Lib.hid (KW.out.trans hd.below)
                    clear hd c0 c1 c2 c3 c4 c5 hlt
                    obtain ⟨c0, c1, c2, c3, c4, c5, hlt⟩ := blk6 KB.out
                    rw [HS2.out]
                    go_wp2
                    go_ret
                    exact ⟨ret_bool HQ.out.symm, KW.out⟩
                  · have e8 : ((la.length : Int) == 0) = false := beq_eq_false_iff_ne.2 (by have := List.length_pos_iff.2 h8; omega)
                    have e8n : (la.length == 0) = false := beq_eq_false_iff_ne.2 (by have := List.length_pos_iff.2 h8; omega)
                    have HQ : Hid (fb = false) := Lib.hid (HF.out.trans (decide_eq_false (fun h => h.2.2.2.2.2.elim (fun h => absurd h.1 (by omega)) fun h => h8 h.2.1)))
                    clear HF h3 h5 h6 h7 h8 h10
                    go_enter Tryz.func52, Tryz.ntmps52
                    go_wp2_with fail
                    refine (sorted_any _ la _ ((HR.out.1).keep ((Below.refl _ _).alloc (Nat.le_refl _) _))).mono ?_
                    rintro e w2 ⟨rfl, hd⟩
                    have KB := Lib.hid ((Blk.new w 39 #[.int .i64 a0, .int .i64 a1, .int .i64 a2, .int .i64 a3, .slice x1 la.length cx1, .slice x2 ls.length cx2]).on hd.below)
                    have KW := Lib.hid (((Below.refl w.heap.size w).alloc (Nat.le_refl _) (.cells #[.int .i64 a0, .int .i64 a1, .int .i64 a2, .int .i64 a3, .slice x1 la.length cx1, .slice x2 ls.length cx2] 39)).trans hd.below)
                    clear hd
                    obtain ⟨c0, c1, c2, c3, c4, c5, hlt⟩ := blk6 KB.out
                    rw [HS1.out]
                    go_wp2_with fail
                    refine (sorted_any _ ls _ ((HR.out.2).keep KW.out)).mono ?_
                    rintro e w3 ⟨rfl, hd⟩
                    replace KB := Lib.hid (KB.out.on hd.below)
                    replace KW := Lib.hid (KW.out.trans hd.below)
                    clear hd c0 c1 c2 c3 c4 c5 hlt
                    obtain ⟨c0, c1, c2, c3, c4, c5, hlt⟩ := blk6 KB.out
                    rw [HS2.out]
                    go_wp2
                    go_ret
                    exact ⟨ret_bool HQ.out.symm, KW.out⟩
                · have e10 := beq_f h10
                  have HQ : Hid (fb = false) := Lib.hid (HF.out.trans (decide_eq_false (fun h => h.2.2.2.2.2.elim (fun h => h7 h.1) fun h => h10 h.1)))
                  clear HF h3 h5 h6 h7 h10
                  go_enter Tryz.func52, Tryz.ntmps52
                  go_wp2_with fail
                  refine (sorted_any _ la _ ((HR.out.1).keep ((Below.refl _ _).alloc (Nat.le_refl _) _))).mono ?_
                  rintro e w2 ⟨rfl, hd⟩
                  have KB := Lib.hid ((Blk.new w 39 #[.int .i64 a0, .int .i64 a1, .int .i64 a2, .int .i64 a3, .slice x1 la.length cx1, .slice x2 ls.length cx2]).on hd.below)
                  have KW := Lib.hid (((Below.refl w.heap.size w).alloc (Nat.le_refl _) (.cells #[.int .i64 a0, .int .i64 a1, .int .i64 a2, .int .i64 a3, .slice x1 la.length cx1, .slice x2 ls.length cx2] 39)).trans hd.below)
                  clear hd
                  obtain ⟨c0, c1, c2, c3, c4, c5, hlt⟩ := blk6 KB.out
                  rw [HS1.out]
                  go_wp2_with fail
                  refine (sorted_any _ ls _ ((HR.out.2).keep KW.out)).mono ?_
                  rintro e w3 ⟨rfl, hd⟩
                  replace KB := Lib.hid (KB.out.on hd.below)
                  replace KW := Lib.hid (KW.out.trans hd.below)
                  clear hd c0 c1 c2 c3 c4 c5 hlt
                  obtain ⟨c0, c1, c2, c3, c4, c5, hlt⟩ := blk6 KB.out
                  rw [HS2.out]
                  go_wp2
                  go_ret
                  exact ⟨ret_bool HQ.out.symm, KW.out⟩
            · have HS2 := Lib.hid (Bool.eq_false_iff.2 h6)
              have HQ : Hid (fb = false) := Lib.hid (HF.out.trans (decide_eq_false (fun h => h6 h.2.2.2.2.1)))
              clear HF h3 h5 h6
              go_enter Tryz.func52, Tryz.ntmps52
              go_wp2_with fail
              refine (sorted_any _ la _ ((HR.out.1).keep ((Below.refl _ _).alloc (Nat.le_refl _) _))).mono ?_
              rintro e w2 ⟨rfl, hd⟩
              have KB := Lib.hid ((Blk.new w 39 #[.int .i64 a0, .int .i64 a1, .int .i64 a2, .int .i64 a3, .slice x1 la.length cx1, .slice x2 ls.length cx2]).on hd.below)
              have KW := Lib.hid (((Below.refl w.heap.size w).alloc (Nat.le_refl _) (.cells #[.int .i64 a0, .int .i64 a1, .int .i64 a2, .int .i64 a3, .slice x1 la.length cx1, .slice x2 ls.length cx2] 39)).trans hd.below)
              clear hd
              obtain ⟨c0, c1, c2, c3, c4, c5, hlt⟩ := blk6 KB.out
              rw [HS1.out]
              go_wp2_with fail
              refine (sorted_any _ ls _ ((HR.out.2).keep KW.out)).mono ?_
              rintro e w3 ⟨rfl, hd⟩
              replace KB := Lib.hid (KB.out.on hd.below)
              replace KW := Lib.hid (KW.out.trans hd.below)
              clear hd c0 c1 c2 c3 c4 c5 hlt
              obtain ⟨c0, c1, c2, c3, c4, c5, hlt⟩ := blk6 KB.out
              rw [HS2.out]
              go_wp2
              go_ret
              exact ⟨ret_bool HQ.out.symm, KW.out⟩
          · have HS1 := Lib.hid (Bool.eq_false_iff.2 h5)
            have HQ : Hid (fb = false) := Lib.hid (HF.out.trans (decide_eq_false (fun h => h5 h.2.2.2.1)))
            clear HF h3 h5
            go_enter Tryz.func52, Tryz.ntmps52
            go_wp2_with fail
            refine (sorted_any _ la _ ((HR.out.1).keep ((Below.refl _ _).alloc (Nat.le_refl _) _))).mono ?_
            rintro e w2 ⟨rfl, hd⟩
            have KB := Lib.hid ((Blk.new w 39 #[.int .i64 a0, .int .i64 a1, .int .i64 a2, .int .i64 a3, .slice x1 la.length cx1, .slice x2 ls.length cx2]).on hd.below)
            have KW := Lib.hid (((Below.refl w.heap.size w).alloc (Nat.le_refl _) (.cells #[.int .i64 a0, .int .i64 a1, .int .i64 a2, .int .i64 a3, .slice x1 la.length cx1, .slice x2 ls.length cx2] 39)).trans hd.below)
            clear hd
            obtain ⟨c0, c1, c2, c3, c4, c5, hlt⟩ := blk6 KB.out
            rw [HS1.out]
            go_wp2
            go_ret
            exact ⟨ret_bool HQ.out.symm, KW.out⟩

set_option maxHeartbeats 4000000 in
theorem rform_any (v : Value) (o : Opn) (w : World) (ho : OpAt w v o) : Calls Tryz.prog 59 #[v] w (BoolMade w (formB o)) := by
  obtain ⟨va, vz, rfl, r1, r2⟩ := ho
  have HR := Lib.hid (And.intro r1 r2)
  obtain ⟨x1, cx1, rfl, _, hm1, _, _⟩ := r1
  obtain ⟨x2, cx2, rfl, _, hm2, _, _⟩ := r2
  unfold opV
  unfold maxLen at hm1 hm2
  have HF : Hid (formB o = decide (0 ≤ cliO o ∧ 0 ≤ begO o ∧ (endO o = -1 ∨ begO o < endO o) ∧ incB (addO o) = true ∧ incB (seeO o) = true ∧ ((kindO o = 1 ∧ addO o ≠ [] ∧ seeO o = []) ∨ (kindO o = 2 ∧ addO o = [] ∧ (¬ endO o = -1 ∨ seeO o = []))))) := Lib.hid rfl
  generalize formB o = fb at *
  generalize cliO o = a0 at *
  generalize kindO o = a1 at *
  generalize begO o = a2 at *
  generalize endO o = a3 at *
  generalize addO o = la at *
  generalize seeO o = ls at *
  by_cases h1 : a0 < 0
  · have HQ : Hid (fb = false) := Lib.hid (HF.out.trans (decide_eq_false (fun h => absurd h.1 (by omega))))
    clear HF 
    go_enter Tryz.func59, Tryz.ntmps59
    go_wp2
    go_ret
    exact ⟨ret_bool HQ.out.symm, (Below.refl _ _).alloc (Nat.le_refl _) _⟩
  · by_cases h2 : a2 < 0
    · have HQ : Hid (fb = false) := Lib.hid (HF.out.trans (decide_eq_false (fun h => absurd h.2.1 (by omega))))
      clear HF 
      go_enter Tryz.func59, Tryz.ntmps59
      go_wp2
      go_ret
      exact ⟨ret_bool HQ.out.symm, (Below.refl _ _).alloc (Nat.le_refl _) _⟩
    · by_cases h3 : a3 = -1
      · have e3 := bne_f h3
        by_cases h5 : incB la = true
        · have HS1 := Lib.hid h5
          by_cases h6 : incB ls = true
          · have HS2 := Lib.hid h6
            by_cases h7 : a1 = 1
            · have e7 := beq_t h7
              by_cases h8 : la = []
              · have e8 : decide ((0 : Int) < (la.length : Int)) = false := by rw [h8]; rfl
                have e8n : decide (0 < la.length) = false := by rw [h8]; rfl
                have HQ : Hid (fb = false) := Lib.hid (HF.out.trans (decide_eq_false (fun h => h.2.2.2.2.2.elim (fun h => h.2.1 h8) fun h => absurd h.1 (by omega))))
                clear HF h3 h5 h6 h7 h8
                go_enter Tryz.func59, Tryz.ntmps59
                go_wp2_with fail
                refine (rsorted_any _ la _ ((HR.out.1).keep ((Below.refl _ _).alloc (Nat.le_refl _) _))).mono ?_
                rintro e w2 ⟨rfl, hd⟩
                have KB := Lib.hid ((Blk.new w 39 #[.int .i64 a0, .int .i64 a1, .int .i64 a2, .int .i64 a3, .slice x1 la.length cx1, .slice x2 ls.length cx2]).on hd.below)
                have KW := Lib.hid (((Below.refl w.heap.size w).alloc (Nat.le_refl _) (.cells #[.int .i64 a0, .int .i64 a1, .int .i64 a2, .int .i64 a3, .slice x1 la.length cx1, .slice x2 ls.length cx2] 39)).trans hd.below)
                clear hd
                obtain ⟨c0, c1, c2, c3, c4, c5, hlt⟩ := blk6 KB.out
                rw [HS1.out]
                go_wp2_with fail
                refine (rsorted_any _ ls _ ((HR.out.2).keep KW.out)).mono ?_
                rintro e w3 ⟨rfl, hd⟩
                replace KB := Lib.hid (KB.out.on hd.below)
                replace KW := Lib.hid (KW.out.trans hd.below)
                clear hd c0 c1 c2 c3 c4 c5 hlt
                obtain ⟨c0, c1, c2, c3, c4, c5, hlt⟩ := blk6 KB.out
                rw [HS2.out]
                go_wp2
                go_ret
                exact ⟨ret_bool HQ.out.symm, KW.out⟩
              · have hp := List.length_pos_iff.2 h8
                have e8 : decide ((0 : Int) < (la.length : Int)) = true := decide_eq_true (by omega)
                have e8n : decide (0 < la.length) = true := decide_eq_true hp
                by_cases h9 : ls = []
                · have e9 : ((ls.length : Int) == 0) = true := by rw [h9]; rfl
                  have e9n : (ls.length == 0) = true := by rw [h9]; rfl
                  have HQ : Hid (fb = true) := Lib.hid (HF.out.trans (decide_eq_true (⟨by omega, by omega, (.inl h3), h5, h6, .inl ⟨h7, h8, h9⟩⟩)))
                  clear HF h3 h5 h6 h7 h8 h9
                  go_enter Tryz.func59, Tryz.ntmps59
                  go_wp2_with fail
                  refine (rsorted_any _ la _ ((HR.out.1).keep ((Below.refl _ _).alloc (Nat.le_refl _) _))).mono ?_
                  rintro e w2 ⟨rfl, hd⟩
                  have KB := Lib.hid ((Blk.new w 39 #[.int .i64 a0, .int .i64 a1, .int .i64 a2, .int .i64 a3, .slice x1 la.length cx1, .slice x2 ls.length cx2]).on hd.below)
                  have KW := Lib.hid (((Below.refl w.heap.size w).alloc (Nat.le_refl _) (.cells #[.int .i64 a0, .int .i64 a1, .int .i64 a2, .int .i64 a3, .slice x1 la.length cx1, .slice x2 ls.length cx2] 39)).trans hd.below)
                  clear hd
                  obtain ⟨c0, c1, c2, c3, c4, c5, hlt⟩ := blk6 KB.out
                  rw [HS1.out]
                  go_wp2_with fail
                  refine (rsorted_any _ ls _ ((HR.out.2).keep KW.out)).mono ?_
                  rintro e w3 ⟨rfl, hd⟩
                  replace KB := Lib.hid (KB.out.on hd.below)
                  replace KW := Lib.hid (KW.out.trans hd.below)
                  clear hd c0 c1 c2 c3 c4 c5 hlt
                  obtain ⟨c0, c1, c2, c3, c4, c5, hlt⟩ := blk6 KB.out
                  rw [HS2.out]
                  go_wp2
                  go_ret
                  exact ⟨ret_bool HQ.out.symm, KW.out⟩
                · have e9 : ((ls.length : Int) == 0) = false := beq_eq_false_iff_ne.2 (by have := List.length_pos_iff.2 h9; omega)
                  have e9n : (ls.length == 0) = false := beq_eq_false_iff_ne.2 (by have := List.length_pos_iff.2 h9; omega)
                  have HQ : Hid (fb = false) := Lib.hid (HF.out.trans (decide_eq_false (fun h => h.2.2.2.2.2.elim (fun h => h9 h.2.2) fun h => absurd h.1 (by omega))))
                  clear HF h3 h5 h6 h7 h8 h9
                  go_enter Tryz.func59, Tryz.ntmps59
                  go_wp2_with fail
                  refine (rsorted_any _ la _ ((HR.out.1).keep ((Below.refl _ _).alloc (Nat.le_refl _) _))).mono ?_
                  rintro e w2 ⟨rfl, hd⟩
                  have KB := Lib.hid ((Blk.new w 39 #[.int .i64 a0, .int .i64 a1, .int .i64 a2, .int .i64 a3, .slice x1 la.length cx1, .slice x2 ls.length cx2]).on hd.below)
                  have KW := Lib.hid (((Below.refl w.heap.size w).alloc (Nat.le_refl _) (.cells #[.int .i64 a0, .int .i64 a1, .int .i64 a2, .int .i64 a3, .slice x1 la.length cx1, .slice x2 ls.length cx2] 39)).trans hd.below)
                  clear hd
                  obtain ⟨c0, c1, c2, c3, c4, c5, hlt⟩ := blk6 KB.out
                  rw [HS1.out]
                  go_wp2_with fail
                  refine (rsorted_any _ ls _ ((HR.out.2).keep KW.out)).mono ?_
                  rintro e w3 ⟨rfl, hd⟩
                  replace KB := Lib.hid (KB.out.on hd.below)
                  replace KW := Lib.hid (KW.out.trans hd.below)
                  clear hd c0 c1 c2 c3 c4 c5 hlt
                  obtain ⟨c0, c1, c2, c3, c4, c5, hlt⟩ := blk6 KB.out
                  rw [HS2.out]
                  go_wp2
                  go_ret
                  exact ⟨ret_bool HQ.out.symm, KW.out⟩
            · have e7 := beq_f h7
              by_cases h10 : a1 = 2
              · have e10 := beq_t h10
                by_cases h8 : la = []
                · have e8 : ((la.length : Int) == 0) = true := by rw [h8]; rfl
                  have e8n : (la.length == 0) = true := by rw [h8]; rfl
                  by_cases h9 : ls = []
                  · have e9 : ((ls.length : Int) == 0) = true := by rw [h9]; rfl
                    have e9n : (ls.length == 0) = true := by rw [h9]; rfl
                    have HQ : Hid (fb = true) := Lib.hid (HF.out.trans (decide_eq_true (⟨by omega, by omega, (.inl h3), h5, h6, .inr ⟨h10, h8, .inr h9⟩⟩)))
                    clear HF h3 h5 h6 h7 h8 h10 h9
                    go_enter Tryz.func59, Tryz.ntmps59
                    go_wp2_with fail
                    refine (rsorted_any _ la _ ((HR.out.1).keep ((Below.refl _ _).alloc (Nat.le_refl _) _))).mono ?_
                    rintro e w2 ⟨rfl, hd⟩
                    have KB := Lib.hid ((Blk.new w 39 #[.int .i64 a0, .int .i64 a1, .int .i64 a2, .int .i64 a3, .slice x1 la.length cx1, .slice x2 ls.length cx2]).on hd.below)
                    have KW := Lib.hid (((Below.refl w.heap.size w).alloc (Nat.le_refl _) (.cells #[.int .i64 a0, .int .i64 a1, .int .i64 a2, .int .i64 a3, .slice x1 la.length cx1, .slice x2 ls.length cx2] 39)).trans hd.below)
                    clear hd
                    obtain ⟨c0, c1, c2, c3, c4, c5, hlt⟩ := blk6 KB.out
                    rw [HS1.out]
                    go_wp2_with fail
                    refine (rsorted_any _ ls _ ((HR.out.2).keep KW.out)).mono ?_
                    rintro e w3 ⟨rfl, hd⟩
                    replace KB := Lib.hid (KB.out.on hd.below)
                    replace KW := Lib.hid (KW.out.trans hd.below)
                    clear hd c0 c1 c2 c3 c4 c5 hlt
                    obtain ⟨c0, c1, c2, c3, c4, c5, hlt⟩ := blk6 KB.out
                    rw [HS2.out]
                    go_wp2
                    go_ret
                    exact ⟨ret_bool HQ.out.symm, KW.out⟩
                  · have e9 : ((ls.length : Int) == 0) = false := beq_eq_false_iff_ne.2 (by have := List.length_pos_iff.2 h9; omega)
                    have e9n : (ls.length == 0) = false := beq_eq_false_iff_ne.2 (by have := List.length_pos_iff.2 h9; omega)
                    have HQ : Hid (fb = false) := Lib.hid (HF.out.trans (decide_eq_false (fun h => h.2.2.2.2.2.elim (fun h => absurd h.1 (by omega)) fun h => h.2.2.elim (fun h => h h3) h9)))
                    clear HF h3 h5 h6 h7 h8 h10 h9
                    go_enter Tryz.func59, Tryz.ntmps59
                    go_wp2_with fail
                    refine (rsorted_any _ la _ ((HR.out.1).keep ((Below.refl _ _).alloc (Nat.le_refl _) _))).mono ?_
                    rintro e w2 ⟨rfl, hd⟩
                    have KB := Lib.hid ((Blk.new w 39 #[.int .i64 a0, .int .i64 a1, .int .i64 a2, .int .i64 a3, .slice x1 la.length cx1, .slice x2 ls.length cx2]).on hd.below)
                    have KW := Lib.hid (((Below.refl w.heap.size w).alloc (Nat.le_refl _) (.cells #[.int .i64 a0, .int .i64 a1, .int .i64 a2, .int .i64 a3, .slice x1 la.length cx1, .slice x2 ls.length cx2] 39)).trans hd.below)
                    clear hd
                    obtain ⟨c0, c1, c2, c3, c4, c5, hlt⟩ := blk6 KB.out
                    rw [HS1.out]
                    go_wp2_with fail
                    refine (rsorted_any _ ls _ ((HR.out.2).keep KW.out)).mono ?_
                    rintro e w3 ⟨rfl, hd⟩
                    replace KB := Lib.hid (KB.out.on hd.below)
                    replace KW := Lib.hid (KW.out.trans hd.below)
                    clear hd c0 c1 c2 c3 c4 c5 hlt
                    obtain ⟨c0, c1, c2, c3, c4, c5, hlt⟩ := blk6 KB.out
                    rw [HS2.out]
                    go_wp2
                    go_ret
                    exact ⟨ret_bool HQ.out.symm, KW.out⟩
                · have e8 : ((la.length : Int) == 0) = false := beq_eq_false_iff_ne.2 (by have := List.length_pos_iff.2 h8; omega)
                  have e8n : (la.length == 0) = false := beq_eq_false_iff_ne.2 (by have := List.length_pos_iff.2 h8; omega)
                  have HQ : Hid (fb = false) := Lib.hid (HF.out.trans (decide_eq_false (fun h => h.2.2.2.2.2.elim (fun h => absurd h.1 (by omega)) fun h => h8 h.2.1)))
                  clear HF h3 h5 h6 h7 h8 h10
                  go_enter Tryz.func59, Tryz.ntmps59
                  go_wp2_with fail
                  refine (rsorted_any _ la _ ((HR.out.1).keep ((Below.refl _ _).alloc (Nat.le_refl _) _))).mono ?_
                  rintro e w2 ⟨rfl, hd⟩
                  have KB := Lib.hid ((Blk.new w 39 #[.int .i64 a0, .int .i64 a1, .int .i64 a2, .int .i64 a3, .slice x1 la.length cx1, .slice x2 ls.length cx2]).on hd.below)
                  have KW := Lib.hid (((Below.refl w.heap.size w).alloc (Nat.le_refl _) (.cells #[.int .i64 a0, .int .i64 a1, .int .i64 a2, .int .i64 a3, .slice x1 la.length cx1, .slice x2 ls.length cx2] 39)).trans hd.below)
                  clear hd
                  obtain ⟨c0, c1, c2, c3, c4, c5, hlt⟩ := blk6 KB.out
                  rw [HS1.out]
                  go_wp2_with fail
                  refine (rsorted_any _ ls _ ((HR.out.2).keep KW.out)).mono ?_
                  rintro e w3 ⟨rfl, hd⟩
                  replace KB := Lib.hid (KB.out.on hd.below)
                  replace KW := Lib.hid (KW.out.trans hd.below)
                  clear hd c0 c1 c2 c3 c4 c5 hlt
                  obtain ⟨c0, c1, c2, c3, c4, c5, hlt⟩ := blk6 KB.out
                  rw [HS2.out]
                  go_wp2
                  go_ret
                  exact ⟨ret_bool HQ.out.symm, KW.out⟩
              · have e10 := beq_f h10
                have HQ : Hid (fb = false) := Lib.hid (HF.out.trans (decide_eq_false (fun h => h.2.2.2.2.2.elim (fun h => h7 h.1) fun h => h10 h.1)))
                clear HF h3 h5 h6 h7 h10
                go_enter Tryz.func59, Tryz.ntmps59
                go_wp2_with fail
                refine (rsorted_any _ la _ ((HR.out.1).keep ((Below.refl _ _).alloc (Nat.le_refl _) _))).mono ?_
                rintro e w2 ⟨rfl, hd⟩
                have KB := Lib.hid ((Blk.new w 39 #[.int .i64 a0, .int .i64 a1, .int .i64 a2, .int .i64 a3, .slice x1 la.length cx1, .slice x2 ls.length cx2]).on hd.below)
                have KW := Lib.hid (((Below.refl w.heap.size w).alloc (Nat.le_refl _) (.cells #[.int .i64 a0, .int .i64 a1, .int .i64 a2, .int .i64 a3, .slice x1 la.length cx1, .slice x2 ls.length cx2] 39)).trans hd.below)
                clear hd
                obtain ⟨c0, c1, c2, c3, c4, c5, hlt⟩ := blk6 KB.out
                rw [HS1.out]
                go_wp2_with fail
                refine (rsorted_any _ ls _ ((HR.out.2).keep KW.out)).mono ?_
                rintro e w3 ⟨rfl, hd⟩
                replace KB := Lib.hid (KB.out.on hd.below)
                replace KW := Lib.hid (KW.out.trans hd.below)
                clear hd c0 c1 c2 c3 c4 c5 hlt
                obtain ⟨c0, c1, c2, c3, c4, c5, hlt⟩ := blk6 KB.out
                rw [HS2.out]
                go_wp2
                go_ret
                exact ⟨ret_bool HQ.out.symm, KW.out⟩
          · have HS2 := Lib.hid (Bool.eq_false_iff.2 h6)
            have HQ : Hid (fb = false) := Lib.hid (HF.out.trans (decide_eq_false (fun h => h6 h.2.2.2.2.1)))
            clear HF h3 h5 h6
            go_enter Tryz.func59, Tryz.ntmps59
            go_wp2_with fail
            refine (rsorted_any _ la _ ((HR.out.1).keep ((Below.refl _ _).alloc (Nat.le_refl _) _))).mono ?_
            rintro e w2 ⟨rfl, hd⟩
            have KB := Lib.hid ((Blk.new w 39 #[.int .i64 a0, .int .i64 a1, .int .i64 a2, .int .i64 a3, .slice x1 la.length cx1, .slice x2 ls.length cx2]).on hd.below)
            have KW := Lib.hid (((Below.refl w.heap.size w).alloc (Nat.le_refl _) (.cells #[.int .i64 a0, .int .i64 a1, .int .i64 a2, .int .i64 a3, .slice x1 la.length cx1, .slice x2 ls.length cx2] 39)).trans hd.below)
            clear hd
            obtain ⟨c0, c1, c2, c3, c4, c5, hlt⟩ := blk6 KB.out
            rw [HS1.out]
            go_wp2_with fail
            refine (rsorted_any _ ls _ ((HR.out.2).keep KW.out)).mono ?_
            rintro e w3 ⟨rfl, hd⟩
            replace KB := Lib.hid (KB.out.on hd.below)
            replace KW := Lib.hid (KW.out.trans hd.below)
            clear hd c0 c1 c2 c3 c4 c5 hlt
            obtain ⟨c0, c1, c2, c3, c4, c5, hlt⟩ := blk6 KB.out
            rw [HS2.out]
            go_wp2
            go_ret
            exact ⟨ret_bool HQ.out.symm, KW.out⟩
        · have HS1 := Lib.hid (Bool.eq_false_iff.2 h5)
          have HQ : Hid (fb = false) := Lib.hid (HF.out.trans (decide_eq_false (fun h => h5 h.2.2.2.1)))
          clear HF h3 h5
          go_enter Tryz.func59, Tryz.ntmps59
          go_wp2_with fail
          refine (rsorted_any _ la _ ((HR.out.1).keep ((Below.refl _ _).alloc (Nat.le_refl _) _))).mono ?_
          rintro e w2 ⟨rfl, hd⟩
          have KB := Lib.hid ((Blk.new w 39 #[.int .i64 a0, .int .i64 a1, .int .i64 a2, .int .i64 a3, .slice x1 la.length cx1, .slice x2 ls.length cx2]).on hd.below)
          have KW := Lib.hid (((Below.refl w.heap.size w).alloc (Nat.le_refl _) (.cells #[.int .i64 a0, .int .i64 a1, .int .i64 a2, .int .i64 a3, .slice x1 la.length cx1, .slice x2 ls.length cx2] 39)).trans hd.below)
          clear hd
          obtain ⟨c0, c1, c2, c3, c4, c5, hlt⟩ := blk6 KB.out
          rw [HS1.out]
          go_wp2
          go_ret
          exact ⟨ret_bool HQ.out.symm, KW.out⟩
      · have e3 := bne_t h3
        by_cases h4 : a3 ≤ a2
        · have HQ : Hid (fb = false) := Lib.hid (HF.out.trans (decide_eq_false (fun h => h.2.2.1.elim h3 (by omega))))
          clear HF h3
          go_enter Tryz.func59, Tryz.ntmps59
          go_wp2
          go_ret
          exact ⟨ret_bool HQ.out.symm, (Below.refl _ _).alloc (Nat.le_refl _) _⟩
        · by_cases h5 : incB la = true
          · have HS1 := Lib.hid h5
            by_cases h6 : incB ls = true
            · have HS2 := Lib.hid h6
              by_cases h7 : a1 = 1
              · have e7 := beq_t h7
                by_cases h8 : la = []
                · have e8 : decide ((0 : Int) < (la.length : Int)) = false := by rw [h8]; rfl
                  have e8n : decide (0 < la.length) = false := by rw [h8]; rfl
                  have HQ : Hid (fb = false) := Lib.hid (HF.out.trans (decide_eq_false (fun h => h.2.2.2.2.2.elim (fun h => h.2.1 h8) fun h => absurd h.1 (by omega))))
                  clear HF h3 h5 h6 h7 h8
                  go_enter Tryz.func59, Tryz.ntmps59
                  go_wp2_with fail
                  refine (rsorted_any _ la _ ((HR.out.1).keep ((Below.refl _ _).alloc (Nat.le_refl _) _))).mono ?_
                  rintro e w2 ⟨rfl, hd⟩
                  have KB := Lib.hid ((Blk.new w 39 #[.int .i64 a0, .int .i64 a1, .int .i64 a2, .int .i64 a3, .slice x1 la.length cx1, .slice x2 ls.length cx2]).on hd.below)
                  have KW := Lib.hid (((Below.refl w.heap.size w).alloc (Nat.le_refl _) (.cells #[.int .i64 a0, .int .i64 a1, .int .i64 a2, .int .i64 a3, .slice x1 la.length cx1, .slice x2 ls.length cx2] 39)).trans hd.below)
                  clear hd
                  obtain ⟨c0, c1, c2, c3, c4, c5, hlt⟩ := blk6 KB.out
                  rw [HS1.out]
                  go_wp2_with fail
                  refine (rsorted_any _ ls _ ((HR.out.2).keep KW.out)).mono ?_
                  rintro e w3 ⟨rfl, hd⟩
                  replace KB := Lib.hid (KB.out.on hd.below)
                  replace KW := Lib.hid (KW.out.trans hd.below)
                  clear hd c0 c1 c2 c3 c4 c5 hlt
                  obtain ⟨c0, c1, c2, c3, c4, c5, hlt⟩ := blk6 KB.out
                  rw [HS2.out]
                  go_wp2
                  go_ret
                  exact ⟨ret_bool HQ.out.symm, KW.out⟩
                · have hp := List.length_pos_iff.2 h8
                  have e8 : decide ((0 : Int) < (la.length : Int)) = true := decide_eq_true (by omega)
                  have e8n : decide (0 < la.length) = true := decide_eq_true hp
                  by_cases h9 : ls = []
                  · have e9 : ((ls.length : Int) == 0) = true := by rw [h9]; rfl
                    have e9n : (ls.length == 0) = true := by rw [h9]; rfl
                    have HQ : Hid (fb = true) := Lib.hid (HF.out.trans (decide_eq_true (⟨by omega, by omega, (.inr (by omega)), h5, h6, .inl ⟨h7, h8, h9⟩⟩)))
                    clear HF h3 h5 h6 h7 h8 h9
                    go_enter Tryz.func59, Tryz.ntmps59
                    go_wp2_with fail
                    refine (rsorted_any _ la _ ((HR.out.1).keep ((Below.refl _ _).alloc (Nat.le_refl _) _))).mono ?_
                    rintro e w2 ⟨rfl, hd⟩
                    have KB := Lib.hid ((Blk.new w 39 #[.int .i64 a0, .int .i64 a1, .int .i64 a2, .int .i64 a3, .slice x1 la.length cx1, .slice x2 ls.length cx2]).on hd.below)
                    have KW := Lib.hid (((Below.refl w.heap.size w).alloc (Nat.le_refl _) (.cells #[.int .i64 a0, .int .i64 a1, .int .i64 a2, .int .i64 a3, .slice x1 la.length cx1, .slice x2 ls.length cx2] 39)).trans hd.below)
                    clear hd
                    obtain ⟨c0, c1, c2, c3, c4, c5, hlt⟩ := blk6 KB.out
                    rw [HS1.out]
                    go_wp2_with fail
                    refine (rsorted_any _ ls _ ((HR.out.2).keep KW.out)).mono ?_
                    rintro e w3 ⟨rfl, hd⟩
                    replace KB := Lib.hid (KB.out.on hd.below)
                    replace KW := Lib.hid (KW.out.trans hd.below)
                    clear hd c0 c1 c2 c3 c4 c5 hlt
                    obtain ⟨c0, c1, c2, c3, c4, c5, hlt⟩ := blk6 KB.out
                    rw [HS2.out]
                    go_wp2
                    go_ret
                    exact ⟨ret_bool HQ.out.symm, KW.out⟩
                  · have e9 : ((ls.length : Int) == 0) = false := beq_eq_false_iff_ne.2 (by have := List.length_pos_iff.2 h9; omega)
                    have e9n : (ls.length == 0) = false := beq_eq_false_iff_ne.2 (by have := List.length_pos_iff.2 h9; omega)
                    have HQ : Hid (fb = false) := Lib.hid (HF.out.trans (decide_eq_false (fun h => h.2.2.2.2.2.elim (fun h => h9 h.2.2) fun h => absurd h.1 (by omega))))
                    clear HF h3 h5 h6 h7 h8 h9
                    go_enter Tryz.func59, Tryz.ntmps59
                    go_wp2_with fail
                    refine (rsorted_any _ la _ ((HR.out.1).keep ((Below.refl _ _).alloc (Nat.le_refl _) _))).mono ?_
                    rintro e w2 ⟨rfl, hd⟩
                    have KB := Lib.hid ((Blk.new w 39 #[.int .i64 a0, .int .i64 a1, .int .i64 a2, .int .i64 a3, .slice x1 la.length cx1, .slice x2 ls.length cx2]).on hd.below)
                    have KW := Lib.hid (((Below.refl w.heap.size w).alloc (Nat.le_refl _) (.cells #[.int .i64 a0, .int .i64 a1, .int .i64 a2, .int .i64 a3, .slice x1 la.length cx1, .slice x2 ls.length cx2] 39)).trans hd.below)
                    clear hd
                    obtain ⟨c0, c1, c2, c3, c4, c5, hlt⟩ := blk6 KB.out
                    rw [HS1.out]
                    go_wp2_with fail
                    refine (rsorted_any _ ls _ ((HR.out.2).keep KW.out)).mono ?_
                    rintro e w3 ⟨rfl, hd⟩
                    replace KB := Lib.hid (KB.out.on hd.below)
                    replace KW := Lib.hid (KW.out.trans hd.below)
                    clear hd c0 c1 c2 c3 c4 c5 hlt
                    obtain ⟨c0, c1, c2, c3, c4, c5, hlt⟩ := blk6 KB.out
                    rw [HS2.out]
                    go_wp2
                    go_ret
                    exact ⟨ret_bool HQ.out.symm, KW.out⟩
              · have e7 := beq_f h7
                by_cases h10 : a1 = 2
                · have e10 := beq_t h10
                  by_cases h8 : la = []
                  · have e8 : ((la.length : Int) == 0) = true := by rw [h8]; rfl
                    have e8n : (la.length == 0) = true := by rw [h8]; rfl
                    have HQ : Hid (fb = true) := Lib.hid (HF.out.trans (decide_eq_true (⟨by omega, by omega, (.inr (by omega)), h5, h6, .inr ⟨h10, h8, .inl h3⟩⟩)))
                    clear HF h3 h5 h6 h7 h8 h10
                    go_enter Tryz.func59, Tryz.ntmps59
                    go_wp2_with fail
                    refine (rsorted_any _ la _ ((HR.out.1).keep ((Below.refl _ _).alloc (Nat.le_refl _) _))).mono ?_
                    rintro e w2 ⟨rfl, hd⟩
                    have KB := Lib.hid ((Blk.new w 39 #[.int .i64 a0, .int .i64 a1, .int .i64 a2, .int .i64 a3, .slice x1 la.length cx1, .slice x2 ls.length cx2]).on hd.below)
                    have KW := Lib.hid (((Below.refl w.heap.size w).alloc (Nat.le_refl _) (.cells #[.int .i64 a0, .int .i64 a1, .int .i64 a2, .int .i64 a3, .slice x1 la.length cx1, .slice x2 ls.length cx2] 39)).trans hd.below)
                    clear hd
                    obtain ⟨c0, c1, c2, c3, c4, c5, hlt⟩ := blk6 KB.out
                    rw [HS1.out]
                    go_wp2_with fail
                    refine (rsorted_any _ ls _ ((HR.out.2).keep KW.out)).mono ?_
                    rintro e w3 ⟨rfl, hd⟩
                    replace KB := Lib.hid (KB.out.on hd.below)
                    replace KW := Lib.hid (KW.out.trans hd.below)
                    clear hd c0 c1 c2 c3 c4 c5 hlt
                    obtain ⟨c0, c1, c2, c3, c4, c5, hlt⟩ := blk6 KB.out
                    rw [HS2.out]
                    go_wp2
                    go_ret
                    exact ⟨ret_bool HQ.out.symm, KW.out⟩
                  · have e8 : ((la.length : Int) == 0) = false := beq_eq_false_iff_ne.2 (by have := List.length_pos_iff.2 h8; omega)
                    have e8n : (la.length == 0) = false := beq_eq_false_iff_ne.2 (by have := List.length_pos_iff.2 h8; omega)
                    have HQ : Hid (fb = false) := Lib.hid (HF.out.trans (decide_eq_false (fun h => h.2.2.2.2.2.elim (fun h => absurd h.1 (by omega)) fun h => h8 h.2.1)))
                    clear HF h3 h5 h6 h7 h8 h10
                    go_enter Tryz.func59, Tryz.ntmps59
                    go_wp2_with fail
                    refine (rsorted_any _ la _ ((HR.out.1).keep ((Below.refl _ _).alloc (Nat.le_refl _) _))).mono ?_
                    rintro e w2 ⟨rfl, hd⟩
                    have KB := Lib.hid ((Blk.new w 39 #[.int .i64 a0, .int .i64 a1, .int .i64 a2, .int .i64 a3, .slice x1 la.length cx1, .slice x2 ls.length cx2]).on hd.below)
                    have KW := Lib.hid (((Below.refl w.heap.size w).alloc (Nat.le_refl _) (.cells #[.int .i64 a0, .int .i64 a1, .int .i64 a2, .int .i64 a3, .slice x1 la.length cx1, .slice x2 ls.length cx2] 39)).trans hd.below)
                    clear hd
                    obtain ⟨c0, c1, c2, c3, c4, c5, hlt⟩ := blk6 KB.out
                    rw [HS1.out]
                    go_wp2_with fail
                    refine (rsorted_any _ ls _ ((HR.out.2).keep KW.out)).mono ?_
                    rintro e w3 ⟨rfl, hd⟩
                    replace KB := Lib.hid (KB.out.on hd.below)
                    replace KW := Lib.hid (KW.out.trans hd.below)
                    clear hd c0 c1 c2 c3 c4 c5 hlt
                    obtain ⟨c0, c1, c2, c3, c4, c5, hlt⟩ := blk6 KB.out
                    rw [HS2.out]
                    go_wp2
                    go_ret
                    exact ⟨ret_bool HQ.out.symm, KW.out⟩
                · have e10 := beq_f h10
                  have HQ : Hid (fb = false) := Lib.hid (HF.out.trans (decide_eq_false (fun h => h.2.2.2.2.2.elim (fun h => h7 h.1) fun h => h10 h.1)))
                  clear HF h3 h5 h6 h7 h10
                  go_enter Tryz.func59, Tryz.ntmps59
                  go_wp2_with fail
                  refine (rsorted_any _ la _ ((HR.out.1).keep ((Below.refl _ _).alloc (Nat.le_refl _) _))).mono ?_
                  rintro e w2 ⟨rfl, hd⟩
                  have KB := Lib.hid ((Blk.new w 39 #[.int .i64 a0, .int .i64 a1, .int .i64 a2, .int .i64 a3, .slice x1 la.length cx1, .slice x2 ls.length cx2]).on hd.below)
                  have KW := Lib.hid (((Below.refl w.heap.size w).alloc (Nat.le_refl _) (.cells #[.int .i64 a0, .int .i64 a1, .int .i64 a2, .int .i64 a3, .slice x1 la.length cx1, .slice x2 ls.length cx2] 39)).trans hd.below)
                  clear hd
                  obtain ⟨c0, c1, c2, c3, c4, c5, hlt⟩ := blk6 KB.out
                  rw [HS1.out]
                  go_wp2_with fail
                  refine (rsorted_any _ ls _ ((HR.out.2).keep KW.out)).mono ?_
                  rintro e w3 ⟨rfl, hd⟩
                  replace KB := Lib.hid (KB.out.on hd.below)
                  replace KW := Lib.hid (KW.out.trans hd.below)
                  clear hd c0 c1 c2 c3 c4 c5 hlt
                  obtain ⟨c0, c1, c2, c3, c4, c5, hlt⟩ := blk6 KB.out
                  rw [HS2.out]
                  go_wp2
                  go_ret
                  exact ⟨ret_bool HQ.out.symm, KW.out⟩
            · have HS2 := Lib.hid (Bool.eq_false_iff.2 h6)
              have HQ : Hid (fb = false) := Lib.hid (HF.out.trans (decide_eq_false (fun h => h6 h.2.2.2.2.1)))
              clear HF h3 h5 h6
              go_enter Tryz.func59, Tryz.ntmps59
              go_wp2_with fail
              refine (rsorted_any _ la _ ((HR.out.1).keep ((Below.refl _ _).alloc (Nat.le_refl _) _))).mono ?_
              rintro e w2 ⟨rfl, hd⟩
              have KB := Lib.hid ((Blk.new w 39 #[.int .i64 a0, .int .i64 a1, .int .i64 a2, .int .i64 a3, .slice x1 la.length cx1, .slice x2 ls.length cx2]).on hd.below)
              have KW := Lib.hid (((Below.refl w.heap.size w).alloc (Nat.le_refl _) (.cells #[.int .i64 a0, .int .i64 a1, .int .i64 a2, .int .i64 a3, .slice x1 la.length cx1, .slice x2 ls.length cx2] 39)).trans hd.below)
              clear hd
              obtain ⟨c0, c1, c2, c3, c4, c5, hlt⟩ := blk6 KB.out
              rw [HS1.out]
              go_wp2_with fail
              refine (rsorted_any _ ls _ ((HR.out.2).keep KW.out)).mono ?_
              rintro e w3 ⟨rfl, hd⟩
              replace KB := Lib.hid (KB.out.on hd.below)
              replace KW := Lib.hid (KW.out.trans hd.below)
              clear hd c0 c1 c2 c3 c4 c5 hlt
              obtain ⟨c0, c1, c2, c3, c4, c5, hlt⟩ := blk6 KB.out
              rw [HS2.out]
              go_wp2
              go_ret
              exact ⟨ret_bool HQ.out.symm, KW.out⟩
          · have HS1 := Lib.hid (Bool.eq_false_iff.2 h5)
            have HQ : Hid (fb = false) := Lib.hid (HF.out.trans (decide_eq_false (fun h => h5 h.2.2.2.1)))
            clear HF h3 h5
            go_enter Tryz.func59, Tryz.ntmps59
            go_wp2_with fail
            refine (rsorted_any _ la _ ((HR.out.1).keep ((Below.refl _ _).alloc (Nat.le_refl _) _))).mono ?_
            rintro e w2 ⟨rfl, hd⟩
            have KB := Lib.hid ((Blk.new w 39 #[.int .i64 a0, .int .i64 a1, .int .i64 a2, .int .i64 a3, .slice x1 la.length cx1, .slice x2 ls.length cx2]).on hd.below)
            have KW := Lib.hid (((Below.refl w.heap.size w).alloc (Nat.le_refl _) (.cells #[.int .i64 a0, .int .i64 a1, .int .i64 a2, .int .i64 a3, .slice x1 la.length cx1, .slice x2 ls.length cx2] 39)).trans hd.below)
            clear hd
            obtain ⟨c0, c1, c2, c3, c4, c5, hlt⟩ := blk6 KB.out
            rw [HS1.out]
            go_wp2
            go_ret
            exact ⟨ret_bool HQ.out.symm, KW.out⟩

end Go.Proofs.YtjijlhjggpibjaaGreat
