/-
  Chapter 55: cmp.Or of ints, and the comparison of Order.
-/
import Derived.Test.YtjijlhjggpibjaaGreatGe
import Derived.Test.YtjijlhjggpibjaaGreatGb
import Derived.Test.YtjijlhjggpibjaaGreatVh
import Derived.Test.YtjijlhjggpibjaaGreatShelf
namespace Go.Proofs.YtjijlhjggpibjaaGreat
open Go.RowKit Go.Maps

def orL : List Int → Int
  | [] => 0
  | x :: r => if x = 0 then orL r else x
theorem orL4 (a b c d : Int) : orL [a, b, c, d] = or4 a b c d := by
  unfold or4 orL orL orL orL orL
  repeat' split
  all_goals first | rfl | simp_all
theorem orL_skip : ∀ {xs : List Int} {k : Nat}, (∀ x ∈ xs.take k, x = 0) → orL xs = orL (xs.drop k)
  | _, 0, _ => rfl
  | [], k + 1, _ => rfl
  | x :: xs, k + 1, h => by
    have h0 : x = 0 := h x (by rw [List.take_succ_cons]; exact List.mem_cons_self ..)
    rw [List.drop_succ_cons]
    show (if x = 0 then orL xs else x) = _
    rw [if_pos h0]
    exact orL_skip fun y hy => h y (by rw [List.take_succ_cons]; exact List.mem_cons_of_mem _ hy)
theorem or_any (v : Value) (xs : List Int) (w : World) (hr : Reads vi w v xs) :
    Calls Tryz.prog 20 #[v] w fun e w' => e = .returned (.int .i64 (orL xs)) ∧ w = w' := by
  obtain ⟨ao, cap, rfl, hl, hm, hn, hx⟩ := hr
  unfold maxLen at hm
  go_enter Tryz.func20, Tryz.ntmps20
  go_wp2
  go_loop [8] (fun i => ∃ k : Nat, k ≤ xs.length ∧ i = .int .i64 k ∧ ∀ x ∈ xs.take k, x = 0) (fun i => xs.length - (intOf i).toNat)
  case atStart => exact ⟨0, by omega, rfl, by simp⟩
  case round =>
    obtain ⟨k, hk, rfl, hp⟩ := hrel
    have HP := Lib.hid hp
    clear hp
    by_cases hlt : k < xs.length
    · obtain ⟨b, off, rfl, hb, hc⟩ := hx (by intro e; subst e; simp at hlt)
      have h2 : w.cell? ⟨b, off + k, none⟩ = some (.int .i64 xs[k]) := hc k hlt
      have HD : Hid (xs.drop k = xs[k] :: xs.drop (k + 1)) := Lib.hid (List.drop_eq_getElem_cons hlt)
      have HT : Hid (xs.take (k + 1) = xs.take k ++ [xs[k]]) := Lib.hid (List.take_succ_eq_append_getElem hlt)
      clear hc hx hn
      generalize xs[k] = x at *
      by_cases hz : x = 0
      · have e1 := bne_f hz
        have HZ := Lib.hid hz
        clear hz
        go_wp2
        go_round
        case rel => exact ⟨k + 1, by omega, by go_num, by rw [HT.out]; intro y hy; rcases List.mem_append.1 hy with h | h; exact HP.out y h; rw [List.mem_singleton.1 h]; exact HZ.out⟩
        case measure => simp [intOf]; omega
      · have e1 := bne_t hz
        have HZ := Lib.hid hz
        clear hz
        go_wp2
        go_ret
        exact ⟨ret_int (by rw [orL_skip HP.out, HD.out]; unfold orL; rw [if_neg HZ.out]), rfl⟩
    · go_wp2
      go_ret
      refine ⟨ret_int ?_, rfl⟩
      rw [orL_skip HP.out, List.drop_eq_nil_of_le (by omega)]; rfl
set_option maxRecDepth 100000 in
theorem kind_any (hp : Nat) (hv : Value) (h : List Opn) (i : Nat) (w : World) (hc : w.cell? ⟨hp, 0, none⟩ = some hv) (hr : ReadsO w hv h) (hi : i < h.length) :
    Calls Tryz.prog 19 #[.int .i64 (i : Int), .pointer (some ⟨hp, 0, none⟩)] w fun e w' => e = .returned (.int .i64 (kdI h i)) ∧ w = w' := by
  obtain ⟨b, off, cap, a4, c4, a5, c5, rfl, hl0, hm0, hm4, hm5, hl4, hl5, hcell, r1, r2⟩ := hr.at2 hi
  have d1 := (hcell w (Below.refl _ _)).2.1
  have hii : (i : Int) < h.length := by omega
  have hi0 : (0 : Int) ≤ (i : Int) := by omega
  have HK : Hid (kdI h i = if kindO h[i] = 1 then 0 else 1) := Lib.hid (by unfold kdI; rw [nth_eq hi])
  rw [HK.out]
  clear hcell r1 r2 hr HK
  generalize h[i] = x at *
  clear hi
  by_cases hk : kindO x = 1
  · have e1 := beq_t hk
    rw [if_pos hk]
    clear hk
    go_enter Tryz.func19, Tryz.ntmps19
    go_wp2
    go_ret
    exact ⟨rfl, rfl⟩
  · have e1 := beq_f hk
    rw [if_neg hk]
    clear hk
    go_enter Tryz.func19, Tryz.ntmps19
    go_wp2
    go_ret
    exact ⟨rfl, rfl⟩
def Gb.leftR (xs : List Int) : Gb.Left := .has (fun x w => Reads vi w x xs) (fun _ _ _ hb h => h.keep hb.bel)
theorem Gb.GB.cell {w w' : World} (h : Gb.GB w.heap.size w w') {p : Addr} {v : Value} (hc : w.cell? p = some v) : w'.cell? p = some v := (h.bel.cell (block_lt_of_cell hc)).trans hc

set_option maxRecDepth 100000 in
set_option maxHeartbeats 8000000 in
theorem ordclo_any (hp lp bm nM : Nat) (hv : Value) (h : List Opn) (i k : Nat) (M : Int → Option Int) (li lk : Int) (W : World) (hc : W.cell? ⟨hp, 0, none⟩ = some hv) (hm : W.cell? ⟨lp, 0, none⟩ = some (.map (some bm))) (hM : MapAt plcT W bm nM M) (hr : ReadsO W hv h) (hs : SmallH h) (hi : i < h.length) (hk : k < h.length) (hli : (M (i : Int)).getD 0 = li) (hlk : (M (k : Int)).getD 0 = lk) :
    Calls Tryz.prog 18 #[.int .i64 (i : Int), .int .i64 (k : Int), .pointer (some ⟨hp, 0, none⟩), .pointer (some ⟨lp, 0, none⟩)] W fun e w' =>
      e = .returned (.int .i64 (or4 (Lib.compareInt li lk) (Lib.compareInt (kdI h i) (kdI h k)) (Lib.compareInt (begO (nth h i)) (begO (nth h k))) (Lib.compareInt (i : Int) (k : Int)))) ∧ Gb.GB W.heap.size W w' := by
  have mixed : Tryz.prog.follows .mixedOrders = true := by kernel_rfl
  have hsz := hs.1
  have hok : ∀ j, j < h.length → plcT.ok (j : Int) := fun j hj => (⟨by omega, by omega⟩ : 0 ≤ (j : Int) ∧ (j : Int) < 4294967296)
  have HLI : Hid (∀ wq, Gb.GB W.heap.size W wq → (Instr.lookup 42 (.map (some bm)) (.int .i64 (i : Int)) false).run Tryz.prog wq = .ok (.int .i64 li) wq) := Lib.hid fun wq hq => by
    have h1 := (hM.on hq.bel).run false (i : Int) (hok i hi)
    subst hli
    exact h1
  have HLK : Hid (∀ wq, Gb.GB W.heap.size W wq → (Instr.lookup 42 (.map (some bm)) (.int .i64 (k : Int)) false).run Tryz.prog wq = .ok (.int .i64 lk) wq) := Lib.hid fun wq hq => by
    have h1 := (hM.on hq.bel).run false (k : Int) (hok k hk)
    subst hlk
    exact h1
  have HC : Hid (∀ wq, Gb.GB W.heap.size W wq → wq.cell? ⟨hp, 0, none⟩ = some hv) := Lib.hid fun wq hq => hq.cell hc
  have HL : Hid (∀ wq, Gb.GB W.heap.size W wq → wq.cell? ⟨lp, 0, none⟩ = some (.map (some bm))) := Lib.hid fun wq hq => hq.cell hm
  have HKI : Hid (∀ wq, Gb.GB W.heap.size W wq → Calls Tryz.prog 19 #[.int .i64 (i : Int), .pointer (some ⟨hp, 0, none⟩)] wq fun e w' => e = .returned (.int .i64 (kdI h i)) ∧ wq = w') := Lib.hid fun wq hq => kind_any hp hv h i wq (hq.cell hc) (hr.on hq.bel) hi
  have HKK : Hid (∀ wq, Gb.GB W.heap.size W wq → Calls Tryz.prog 19 #[.int .i64 (k : Int), .pointer (some ⟨hp, 0, none⟩)] wq fun e w' => e = .returned (.int .i64 (kdI h k)) ∧ wq = w') := Lib.hid fun wq hq => kind_any hp hv h k wq (hq.cell hc) (hr.on hq.bel) hk
  obtain ⟨b, off, cap, a4, c4, a5, c5, rfl, hl0, hm0, hm4, hm5, hl4, hl5, hcell, r1, r2⟩ := hr.at2 hi
  obtain ⟨b2, off2, cap2, a42, c42, a52, c52, hv2, hl02, hm02, hm42, hm52, hl42, hl52, hcell2, r12, r22⟩ := hr.at2 hk
  injection hv2 with e1 e2 e3
  injection e1 with e1
  injection e1 with e1 e4
  subst e1 e4
  have HBI : Hid (∀ wq, Gb.GB W.heap.size W wq → wq.cell? ⟨b, off + i * 6 + 2, none⟩ = some (.int .i64 (begO (nth h i)))) := Lib.hid fun wq hq => by rw [nth_eq hi]; exact (hcell wq hq.bel).2.2.1
  have HBK : Hid (∀ wq, Gb.GB W.heap.size W wq → wq.cell? ⟨b, off + k * 6 + 2, none⟩ = some (.int .i64 (begO (nth h k)))) := Lib.hid fun wq hq => by rw [nth_eq hk]; exact (hcell2 wq hq.bel).2.2.1
  have hii : (i : Int) < h.length := by omega
  have hi0 : (0 : Int) ≤ (i : Int) := by omega
  have hki : (k : Int) < h.length := by omega
  have hk0 : (0 : Int) ≤ (k : Int) := by omega
  clear hc hm hM hr hs hli hlk hcell hcell2 r1 r2 r12 r22 e2 e3 hok hm4 hm5 hl4 hl5 hm42 hm52 hl42 hl52 hl02 hm02
  generalize begO (nth h i) = bi at *
  generalize begO (nth h k) = bk at *
  generalize kdI h i = di at *
  generalize kdI h k = dk at *
  have HOR := Lib.hid (orL4 (Lib.compareInt li lk) (Lib.compareInt di dk) (Lib.compareInt bi bk) (Lib.compareInt (i : Int) (k : Int)))
  generalize or4 (Lib.compareInt li lk) (Lib.compareInt di dk) (Lib.compareInt bi bk) (Lib.compareInt (i : Int) (k : Int)) = res at *
  clear hi hk hsz
  go_enter Tryz.func18, Tryz.ntmps18
  go_upto_region 2 with fail
  refine Gb.region_left [.is (.map (some bm)), .is (.int .i64 (i : Int)), .is (.int .i64 li), .is (.map (some bm)), .is (.int .i64 (k : Int)), .is (.int .i64 lk), .is (.int .i64 (Lib.compareInt li lk)), .is (.func (.func 19) #[] #[.pointer (some ⟨hp, 0, none⟩)]), .is (.int .i64 (i : Int)), .is (.int .i64 di), .is (.func (.func 19) #[] #[.pointer (some ⟨hp, 0, none⟩)]), .is (.int .i64 (k : Int)), .is (.int .i64 dk), .is (.int .i64 (Lib.compareInt di dk)), .is (.slice (some ⟨b, off, none⟩) h.length cap), .is (.int .i64 (i : Int)), .is (.pointer (some ⟨b, off + i * 6, none⟩)), .is (.pointer (some ⟨b, off + i * 6 + 2, none⟩)), .is (.int .i64 bi), .is (.slice (some ⟨b, off, none⟩) h.length cap), .is (.int .i64 (k : Int)), .is (.pointer (some ⟨b, off + k * 6, none⟩)), .is (.pointer (some ⟨b, off + k * 6 + 2, none⟩)), .is (.int .i64 bk), .is (.int .i64 (Lib.compareInt bi bk)), .is (.int .i64 (i : Int)), .is (.int .i64 (k : Int)), .is (.int .i64 (Lib.compareInt (i : Int) (k : Int))), (Gb.leftR [Lib.compareInt li lk, Lib.compareInt di dk, Lib.compareInt bi bk, Lib.compareInt (i : Int) (k : Int)]), .is (.int .i64 res), .is (.int .i64 res)] (by kernel_rfl) rfl (by kernel_rfl) (by kernel_rfl) (.cons ?s1_0 (.cons ?s1_1 (.cons ?s1_2 (.cons ?s1_3 (.cons ?s1_4 (.cons ?s1_5 (.cons ?s1_6 (.cons ?s1_7 (.cons ?s1_8 (.cons ?s1_9 (.cons ?s1_10 (.cons ?s1_11 (.cons ?s1_12 (.cons ?s1_13 (.cons ?s1_14 (.cons ?s1_15 (.cons ?s1_16 (.cons ?s1_17 (.cons ?s1_18 (.cons ?s1_19 (.cons ?s1_20 (.cons ?s1_21 (.cons ?s1_22 (.cons ?s1_23 (.cons ?s1_24 (.cons ?s1_25 (.cons ?s1_26 (.cons ?s1_27 (.cons ?s1_28 (.cons ?s1_29 (.cons ?s1_30 .nil))))))))))))))))))))))))))))))) ?s1_fin
  case s1_0 =>
    intro wq hbw st  K hK
    simp only [Act.put, List.setIfInBounds_toArray, List.set_cons_zero, List.set_cons_succ] at hK ⊢
    unfold Gb.opStep
    rw [if_pos (by rfl)]
    have q0 := HL.out wq hbw
    go_simp
    exact hK.out _ _ (Gb.GB.refl _ _) rfl _ rfl
  case s1_1 =>
    intro wq hbw st  K hK
    simp only [Act.put, List.setIfInBounds_toArray, List.set_cons_zero, List.set_cons_succ] at hK ⊢
    unfold Gb.opStep
    rw [if_pos (by rfl)]
    go_simp
    exact hK.out _ _ (Gb.GB.refl _ _) rfl _ rfl
  case s1_2 =>
    intro wq hbw st  K hK
    simp only [Act.put, List.setIfInBounds_toArray, List.set_cons_zero, List.set_cons_succ] at hK ⊢
    unfold Gb.opStep
    rw [if_pos (by rfl)]
    have q0 := HLI.out wq hbw
    go_simp
    exact hK.out _ _ (Gb.GB.refl _ _) rfl _ rfl
  case s1_3 =>
    intro wq hbw st  K hK
    simp only [Act.put, List.setIfInBounds_toArray, List.set_cons_zero, List.set_cons_succ] at hK ⊢
    unfold Gb.opStep
    rw [if_pos (by rfl)]
    have q0 := HL.out wq hbw
    go_simp
    exact hK.out _ _ (Gb.GB.refl _ _) rfl _ rfl
  case s1_4 =>
    intro wq hbw st  K hK
    simp only [Act.put, List.setIfInBounds_toArray, List.set_cons_zero, List.set_cons_succ] at hK ⊢
    unfold Gb.opStep
    rw [if_pos (by rfl)]
    go_simp
    exact hK.out _ _ (Gb.GB.refl _ _) rfl _ rfl
  case s1_5 =>
    intro wq hbw st  K hK
    simp only [Act.put, List.setIfInBounds_toArray, List.set_cons_zero, List.set_cons_succ] at hK ⊢
    unfold Gb.opStep
    rw [if_pos (by rfl)]
    have q0 := HLK.out wq hbw
    go_simp
    exact hK.out _ _ (Gb.GB.refl _ _) rfl _ rfl
  case s1_6 =>
    intro wq hbw st  K hK
    simp only [Act.put, List.setIfInBounds_toArray, List.set_cons_zero, List.set_cons_succ] at hK ⊢
    unfold Gb.opStep
    rw [if_pos (by rfl)]
    go_simp
    refine (Tryz.cmp_Compare_int _ _ _).mono ?_
    rintro e wz ⟨rfl, rfl⟩
    try go_simp
    exact hK.out _ _ (Gb.GB.refl _ _) rfl _ rfl
  case s1_7 =>
    intro wq hbw st  K hK
    simp only [Act.put, List.setIfInBounds_toArray, List.set_cons_zero, List.set_cons_succ] at hK ⊢
    unfold Gb.opStep
    rw [if_pos (by rfl)]
    go_simp
    exact hK.out _ _ (Gb.GB.refl _ _) rfl _ rfl
  case s1_8 =>
    intro wq hbw st  K hK
    simp only [Act.put, List.setIfInBounds_toArray, List.set_cons_zero, List.set_cons_succ] at hK ⊢
    unfold Gb.opStep
    rw [if_pos (by rfl)]
    go_simp
    exact hK.out _ _ (Gb.GB.refl _ _) rfl _ rfl
  case s1_9 =>
    intro wq hbw st  K hK
    simp only [Act.put, List.setIfInBounds_toArray, List.set_cons_zero, List.set_cons_succ] at hK ⊢
    unfold Gb.opStep
    rw [if_pos (by rfl)]
    go_simp
    refine (HKI.out wq hbw).mono ?_
    rintro e wz ⟨rfl, rfl⟩
    try go_simp
    exact hK.out _ _ (Gb.GB.refl _ _) rfl _ rfl
  case s1_10 =>
    intro wq hbw st  K hK
    simp only [Act.put, List.setIfInBounds_toArray, List.set_cons_zero, List.set_cons_succ] at hK ⊢
    unfold Gb.opStep
    rw [if_pos (by rfl)]
    go_simp
    exact hK.out _ _ (Gb.GB.refl _ _) rfl _ rfl
  case s1_11 =>
    intro wq hbw st  K hK
    simp only [Act.put, List.setIfInBounds_toArray, List.set_cons_zero, List.set_cons_succ] at hK ⊢
    unfold Gb.opStep
    rw [if_pos (by rfl)]
    go_simp
    exact hK.out _ _ (Gb.GB.refl _ _) rfl _ rfl
  case s1_12 =>
    intro wq hbw st  K hK
    simp only [Act.put, List.setIfInBounds_toArray, List.set_cons_zero, List.set_cons_succ] at hK ⊢
    unfold Gb.opStep
    rw [if_pos (by rfl)]
    go_simp
    refine (HKK.out wq hbw).mono ?_
    rintro e wz ⟨rfl, rfl⟩
    try go_simp
    exact hK.out _ _ (Gb.GB.refl _ _) rfl _ rfl
  case s1_13 =>
    intro wq hbw st  K hK
    simp only [Act.put, List.setIfInBounds_toArray, List.set_cons_zero, List.set_cons_succ] at hK ⊢
    unfold Gb.opStep
    rw [if_pos (by rfl)]
    go_simp
    refine (Tryz.cmp_Compare_int _ _ _).mono ?_
    rintro e wz ⟨rfl, rfl⟩
    try go_simp
    exact hK.out _ _ (Gb.GB.refl _ _) rfl _ rfl
  case s1_14 =>
    intro wq hbw st  K hK
    simp only [Act.put, List.setIfInBounds_toArray, List.set_cons_zero, List.set_cons_succ] at hK ⊢
    unfold Gb.opStep
    rw [if_pos (by rfl)]
    have q0 := HC.out wq hbw
    go_simp
    exact hK.out _ _ (Gb.GB.refl _ _) rfl _ rfl
  case s1_15 =>
    intro wq hbw st  K hK
    simp only [Act.put, List.setIfInBounds_toArray, List.set_cons_zero, List.set_cons_succ] at hK ⊢
    unfold Gb.opStep
    rw [if_pos (by rfl)]
    go_simp
    exact hK.out _ _ (Gb.GB.refl _ _) rfl _ rfl
  case s1_16 =>
    intro wq hbw st  K hK
    simp only [Act.put, List.setIfInBounds_toArray, List.set_cons_zero, List.set_cons_succ] at hK ⊢
    unfold Gb.opStep
    rw [if_pos (by rfl)]
    go_simp
    exact hK.out _ _ (Gb.GB.refl _ _) rfl _ rfl
  case s1_17 =>
    intro wq hbw st  K hK
    simp only [Act.put, List.setIfInBounds_toArray, List.set_cons_zero, List.set_cons_succ] at hK ⊢
    unfold Gb.opStep
    rw [if_pos (by rfl)]
    go_simp
    exact hK.out _ _ (Gb.GB.refl _ _) rfl _ rfl
  case s1_18 =>
    intro wq hbw st  K hK
    simp only [Act.put, List.setIfInBounds_toArray, List.set_cons_zero, List.set_cons_succ] at hK ⊢
    unfold Gb.opStep
    rw [if_pos (by rfl)]
    have q0 := HBI.out wq hbw
    go_simp
    exact hK.out _ _ (Gb.GB.refl _ _) rfl _ rfl
  case s1_19 =>
    intro wq hbw st  K hK
    simp only [Act.put, List.setIfInBounds_toArray, List.set_cons_zero, List.set_cons_succ] at hK ⊢
    unfold Gb.opStep
    rw [if_pos (by rfl)]
    have q0 := HC.out wq hbw
    go_simp
    exact hK.out _ _ (Gb.GB.refl _ _) rfl _ rfl
  case s1_20 =>
    intro wq hbw st  K hK
    simp only [Act.put, List.setIfInBounds_toArray, List.set_cons_zero, List.set_cons_succ] at hK ⊢
    unfold Gb.opStep
    rw [if_pos (by rfl)]
    go_simp
    exact hK.out _ _ (Gb.GB.refl _ _) rfl _ rfl
  case s1_21 =>
    intro wq hbw st  K hK
    simp only [Act.put, List.setIfInBounds_toArray, List.set_cons_zero, List.set_cons_succ] at hK ⊢
    unfold Gb.opStep
    rw [if_pos (by rfl)]
    go_simp
    exact hK.out _ _ (Gb.GB.refl _ _) rfl _ rfl
  case s1_22 =>
    intro wq hbw st  K hK
    simp only [Act.put, List.setIfInBounds_toArray, List.set_cons_zero, List.set_cons_succ] at hK ⊢
    unfold Gb.opStep
    rw [if_pos (by rfl)]
    go_simp
    exact hK.out _ _ (Gb.GB.refl _ _) rfl _ rfl
  case s1_23 =>
    intro wq hbw st  K hK
    simp only [Act.put, List.setIfInBounds_toArray, List.set_cons_zero, List.set_cons_succ] at hK ⊢
    unfold Gb.opStep
    rw [if_pos (by rfl)]
    have q0 := HBK.out wq hbw
    go_simp
    exact hK.out _ _ (Gb.GB.refl _ _) rfl _ rfl
  case s1_24 =>
    intro wq hbw st  K hK
    simp only [Act.put, List.setIfInBounds_toArray, List.set_cons_zero, List.set_cons_succ] at hK ⊢
    unfold Gb.opStep
    rw [if_pos (by rfl)]
    go_simp
    refine (Tryz.cmp_Compare_int _ _ _).mono ?_
    rintro e wz ⟨rfl, rfl⟩
    try go_simp
    exact hK.out _ _ (Gb.GB.refl _ _) rfl _ rfl
  case s1_25 =>
    intro wq hbw st  K hK
    simp only [Act.put, List.setIfInBounds_toArray, List.set_cons_zero, List.set_cons_succ] at hK ⊢
    unfold Gb.opStep
    rw [if_pos (by rfl)]
    go_simp
    exact hK.out _ _ (Gb.GB.refl _ _) rfl _ rfl
  case s1_26 =>
    intro wq hbw st  K hK
    simp only [Act.put, List.setIfInBounds_toArray, List.set_cons_zero, List.set_cons_succ] at hK ⊢
    unfold Gb.opStep
    rw [if_pos (by rfl)]
    go_simp
    exact hK.out _ _ (Gb.GB.refl _ _) rfl _ rfl
  case s1_27 =>
    intro wq hbw st  K hK
    simp only [Act.put, List.setIfInBounds_toArray, List.set_cons_zero, List.set_cons_succ] at hK ⊢
    unfold Gb.opStep
    rw [if_pos (by rfl)]
    go_simp
    refine (Tryz.cmp_Compare_int _ _ _).mono ?_
    rintro e wz ⟨rfl, rfl⟩
    try go_simp
    exact hK.out _ _ (Gb.GB.refl _ _) rfl _ rfl
  case s1_28 =>
    intro wq hbw st  K hK
    simp only [Act.put, List.setIfInBounds_toArray, List.set_cons_zero, List.set_cons_succ] at hK ⊢
    unfold Gb.opStep
    rw [if_pos (by rfl)]
    go_simp
    exact hK.out _ _ ((Gb.GB.refl _ _).alloc (Nat.le_refl _) _) (blk_reads (xs := [Lib.compareInt li lk, Lib.compareInt di dk, Lib.compareInt bi bk, Lib.compareInt (i : Int) (k : Int)]) (Blk.new _ _ _) rfl (by simp)) _ rfl
  case s1_29 =>
    intro wq hbw st x28 h28 K hK
    simp only [Act.put, List.setIfInBounds_toArray, List.set_cons_zero, List.set_cons_succ] at hK ⊢
    unfold Gb.opStep
    rw [if_pos (by rfl)]
    go_simp
    refine (or_any _ _ _ h28).mono ?_
    rintro e wz ⟨rfl, rfl⟩
    try go_simp
    rw [HOR.out]
    exact hK.out _ _ (Gb.GB.refl _ _) rfl _ rfl
  case s1_30 =>
    intro wq hbw st x28 h28 K hK
    simp only [Act.put, List.setIfInBounds_toArray, List.set_cons_zero, List.set_cons_succ] at hK ⊢
    unfold Gb.opStep
    rw [if_pos (by rfl)]
    go_simp
    exact hK.out _ _ (Gb.GB.refl _ _) rfl _ rfl
  case s1_fin =>
    intro wq hbw
    intro x28 h28
    try simp only [Gb.FinAll]
    simp only [Act.put, List.setIfInBounds_toArray, List.set_cons_zero, List.set_cons_succ]
    have HB := Lib.hid hbw
    clear hbw
    go_wp2
    go_ret
    exact ⟨rfl, HB.out⟩
end Go.Proofs.YtjijlhjggpibjaaGreat
