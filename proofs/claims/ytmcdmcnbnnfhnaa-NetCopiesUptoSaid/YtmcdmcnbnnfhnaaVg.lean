/-
  Chapter 28: Counts; the example.
-/
import Derived.Test.YtmcdmcnbnnfhnaaVf
import Derived.ChangeKeysEq
import Derived.Laws.StructEq
namespace Go.Proofs.Ytmcdmcnbnnfhnaa
open Go.RowKit
set_option maxRecDepth 100000

theorem Try.infoInt0 : (Try.prog.info? 3).map (fun i => (i.zero, i.size, i.bytes)) = some (some (.int .i64 0), 1, 8) := by kernel_rfl
theorem run_eq_five (w : World) (a0 a1 a2 a3 a4 b0 b1 b2 b3 b4 : Int) : (Op.equalIn 10000 57 (.agg #[.int .i64 a0, .int .i64 a1, .int .i64 a2, .int .i64 a3, .int .i64 a4]) (.agg #[.int .i64 b0, .int .i64 b1, .int .i64 b2, .int .i64 b3, .int .i64 b4])).run Try.prog w = .ok (a0 == b0 && (a1 == b1 && (a2 == b2 && (a3 == b3 && a4 == b4)))) w := by
  obtain ⟨i0, hinf, hz0, hz1, hz2⟩ := info_parts Try.infoInt0
  have hc : Try.prog.cellsOf 3 = 1 := by kernel_rfl
  rw [show (10000 : Nat) = 9999 + 1 from rfl, run_equalIn_array (n := 5) (e := 3) w 9999 _ _ Try.underlying57 hinf, hc]
  have hk : Try.prog.plainKey 3 = true := by kernel_rfl
  have he : ∀ x y : Int, (Op.equalIn 9999 3 (.int .i64 x) (.int .i64 y)).run Try.prog w = .ok (x == y) w := fun x y => run_equalIn_int (w := w) 9998 _ _ _ x y Try.underlying3
  have p0 : ∀ v0 v1 v2 v3 v4 : Value, (part 3 #[v0, v1, v2, v3, v4] 0).run Try.prog w = .ok v0 w := fun _ _ _ _ _ => run_part_plain (w := w) hk rfl
  have p1 : ∀ v0 v1 v2 v3 v4 : Value, (part 3 #[v0, v1, v2, v3, v4] 1).run Try.prog w = .ok v1 w := fun _ _ _ _ _ => run_part_plain (w := w) hk rfl
  have p2 : ∀ v0 v1 v2 v3 v4 : Value, (part 3 #[v0, v1, v2, v3, v4] 2).run Try.prog w = .ok v2 w := fun _ _ _ _ _ => run_part_plain (w := w) hk rfl
  have p3 : ∀ v0 v1 v2 v3 v4 : Value, (part 3 #[v0, v1, v2, v3, v4] 3).run Try.prog w = .ok v3 w := fun _ _ _ _ _ => run_part_plain (w := w) hk rfl
  have p4 : ∀ v0 v1 v2 v3 v4 : Value, (part 3 #[v0, v1, v2, v3, v4] 4).run Try.prog w = .ok v4 w := fun _ _ _ _ _ => run_part_plain (w := w) hk rfl
  have hr : List.range 5 = [0, 1, 2, 3, 4] := rfl
  rw [hr]
  cases h0 : (a0 == b0)
  · simp [Op.eqItems, p0, he, h0]
  · cases h1 : (a1 == b1)
    · simp [Op.eqItems, p0, p1, he, h0, h1]
    · cases h2 : (a2 == b2)
      · simp [Op.eqItems, p0, p1, p2, he, h0, h1, h2]
      · cases h3 : (a3 == b3)
        · simp [Op.eqItems, p0, p1, p2, p3, he, h0, h1, h2, h3]
        · cases h4 : (a4 == b4) <;> simp [Op.eqItems, p0, p1, p2, p3, p4, he, h0, h1, h2, h3, h4]
attribute [local go_sem] run_eq_five
def CountsMade (s : NetS) (w : World) (e : Ending) (w' : World) : Prop := e = .returned (.agg #[.int .i64 s.sent, .int .i64 s.twice, .int .i64 s.taken, .int .i64 s.gone, .int .i64 (s.cnt : Int)]) ∧ Below w.heap.size w w'
section
variable {P : Nat → Prop} {n b : Nat} {gv : Value} {s : NetS} {w : World}
set_option maxHeartbeats 4000000
theorem counts_any (h : NetAt P n b gv s w) : Calls Try.prog 20 #[.pointer (some ⟨n, 0, none⟩)] w (CountsMade s w) := by
  have HF : Hid (∀ e w', e = .returned (.agg #[.int .i64 s.sent, .int .i64 s.twice, .int .i64 s.taken, .int .i64 s.gone, .int .i64 (s.cnt : Int)]) ∧ Below w.heap.size w w' → CountsMade s w e w') := Lib.hid fun _ _ h => h
  have HN := Lib.hid h
  obtain ⟨M, hM, -⟩ := h.way
  have HM := Lib.hid hM
  clear h hM
  have HB : Hid (Blk (w.alloc (.cells #[.int .i64 0, .int .i64 0, .int .i64 0, .int .i64 0, .int .i64 0] 57)) w.heap.size 57 #[.int .i64 0, .int .i64 0, .int .i64 0, .int .i64 0, .int .i64 0] ∧ Below w.heap.size w (w.alloc (.cells #[.int .i64 0, .int .i64 0, .int .i64 0, .int .i64 0, .int .i64 0] 57))) := Lib.hid ⟨Blk.new w _ _, (Below.refl _ _).alloc (Nat.le_refl _) _⟩
  generalize hQ : CountsMade s w = Q at *
  clear hQ
  go_enter Try.func20, Try.ntmps20
  go_upto_region 1 with fail
  generalize hw1 : World.alloc w _ = w1 at HB ⊢
  clear hw1
  refine region_tail [.is (.pointer (some ⟨n, 0, none⟩)), .is (.pointer (some ⟨n, 0, none⟩)), .is (.pointer (some ⟨n, 4, none⟩)), .is (.int .i64 s.sent), .is (.pointer (some ⟨n, 0, none⟩)), .is (.pointer (some ⟨n, 0, none⟩)), .is (.pointer (some ⟨n, 5, none⟩)), .is (.int .i64 s.twice), .is (.pointer (some ⟨n, 0, none⟩)), .is (.pointer (some ⟨n, 0, none⟩)), .is (.pointer (some ⟨n, 6, none⟩)), .is (.int .i64 s.taken), .is (.pointer (some ⟨n, 0, none⟩)), .is (.pointer (some ⟨n, 0, none⟩)), .is (.pointer (some ⟨n, 7, none⟩)), .is (.int .i64 s.gone), .is (.pointer (some ⟨n, 0, none⟩)), .is (.pointer (some ⟨n, 0, none⟩)), .is (.pointer (some ⟨n, 2, none⟩)), .is (.map (some b)), .is (.int .i64 (s.cnt : Int)), .is (.agg #[.int .i64 s.sent, .int .i64 s.twice, .int .i64 s.taken, .int .i64 s.gone, .int .i64 (s.cnt : Int)]), .is undef] 22 (by kernel_rfl) rfl (by kernel_rfl) (by kernel_rfl) (by kernel_rfl) (by kernel_rfl) rfl (.cons ?c_0 (.cons ?c_1 (.cons ?c_2 (.cons ?c_3 (.cons ?c_4 (.cons ?c_5 (.cons ?c_6 (.cons ?c_7 (.cons ?c_8 (.cons ?c_9 (.cons ?c_10 (.cons ?c_11 (.cons ?c_12 (.cons ?c_13 (.cons ?c_14 (.cons ?c_15 (.cons ?c_16 (.cons ?c_17 (.cons ?c_18 (.cons ?c_19 (.cons ?c_20 (.cons ?c_21 .nil)))))))))))))))))))))) ?c_fin
  case c_0 =>
    intro wq hbw st  K hK
    simp only [Act.put, List.setIfInBounds_toArray, List.set_cons_zero, List.set_cons_succ] at hK ⊢
    unfold opStep
    rw [if_pos (by rfl)]
    go_simp
    exact hK.out _ _ (Below.refl _ _) rfl _ rfl
  case c_1 =>
    intro wq hbw st  K hK
    simp only [Act.put, List.setIfInBounds_toArray, List.set_cons_zero, List.set_cons_succ] at hK ⊢
    unfold opStep
    rw [if_pos (by rfl)]
    go_simp
    exact hK.out _ _ (Below.refl _ _) rfl _ rfl
  case c_2 =>
    intro wq hbw st  K hK
    simp only [Act.put, List.setIfInBounds_toArray, List.set_cons_zero, List.set_cons_succ] at hK ⊢
    unfold opStep
    rw [if_pos (by rfl)]
    go_simp
    exact hK.out _ _ (Below.refl _ _) rfl _ rfl
  case c_3 =>
    intro wq hbw st  K hK
    simp only [Act.put, List.setIfInBounds_toArray, List.set_cons_zero, List.set_cons_succ] at hK ⊢
    unfold opStep
    rw [if_pos (by rfl)]
    have d0 : wq.cell? ⟨n, 4, none⟩ = some (.int .i64 s.sent) := (HN.out.on (HB.out.2.trans (hbw.mono HB.out.2.size))).box.cell 4
    go_simp
    exact hK.out _ _ (Below.refl _ _) rfl _ rfl
  case c_4 =>
    intro wq hbw st  K hK
    simp only [Act.put, List.setIfInBounds_toArray, List.set_cons_zero, List.set_cons_succ] at hK ⊢
    unfold opStep
    rw [if_pos (by rfl)]
    go_simp
    exact hK.out _ _ (Below.refl _ _) rfl _ rfl
  case c_5 =>
    intro wq hbw st  K hK
    simp only [Act.put, List.setIfInBounds_toArray, List.set_cons_zero, List.set_cons_succ] at hK ⊢
    unfold opStep
    rw [if_pos (by rfl)]
    go_simp
    exact hK.out _ _ (Below.refl _ _) rfl _ rfl
  case c_6 =>
    intro wq hbw st  K hK
    simp only [Act.put, List.setIfInBounds_toArray, List.set_cons_zero, List.set_cons_succ] at hK ⊢
    unfold opStep
    rw [if_pos (by rfl)]
    go_simp
    exact hK.out _ _ (Below.refl _ _) rfl _ rfl
  case c_7 =>
    intro wq hbw st  K hK
    simp only [Act.put, List.setIfInBounds_toArray, List.set_cons_zero, List.set_cons_succ] at hK ⊢
    unfold opStep
    rw [if_pos (by rfl)]
    have d0 : wq.cell? ⟨n, 5, none⟩ = some (.int .i64 s.twice) := (HN.out.on (HB.out.2.trans (hbw.mono HB.out.2.size))).box.cell 5
    go_simp
    exact hK.out _ _ (Below.refl _ _) rfl _ rfl
  case c_8 =>
    intro wq hbw st  K hK
    simp only [Act.put, List.setIfInBounds_toArray, List.set_cons_zero, List.set_cons_succ] at hK ⊢
    unfold opStep
    rw [if_pos (by rfl)]
    go_simp
    exact hK.out _ _ (Below.refl _ _) rfl _ rfl
  case c_9 =>
    intro wq hbw st  K hK
    simp only [Act.put, List.setIfInBounds_toArray, List.set_cons_zero, List.set_cons_succ] at hK ⊢
    unfold opStep
    rw [if_pos (by rfl)]
    go_simp
    exact hK.out _ _ (Below.refl _ _) rfl _ rfl
  case c_10 =>
    intro wq hbw st  K hK
    simp only [Act.put, List.setIfInBounds_toArray, List.set_cons_zero, List.set_cons_succ] at hK ⊢
    unfold opStep
    rw [if_pos (by rfl)]
    go_simp
    exact hK.out _ _ (Below.refl _ _) rfl _ rfl
  case c_11 =>
    intro wq hbw st  K hK
    simp only [Act.put, List.setIfInBounds_toArray, List.set_cons_zero, List.set_cons_succ] at hK ⊢
    unfold opStep
    rw [if_pos (by rfl)]
    have d0 : wq.cell? ⟨n, 6, none⟩ = some (.int .i64 s.taken) := (HN.out.on (HB.out.2.trans (hbw.mono HB.out.2.size))).box.cell 6
    go_simp
    exact hK.out _ _ (Below.refl _ _) rfl _ rfl
  case c_12 =>
    intro wq hbw st  K hK
    simp only [Act.put, List.setIfInBounds_toArray, List.set_cons_zero, List.set_cons_succ] at hK ⊢
    unfold opStep
    rw [if_pos (by rfl)]
    go_simp
    exact hK.out _ _ (Below.refl _ _) rfl _ rfl
  case c_13 =>
    intro wq hbw st  K hK
    simp only [Act.put, List.setIfInBounds_toArray, List.set_cons_zero, List.set_cons_succ] at hK ⊢
    unfold opStep
    rw [if_pos (by rfl)]
    go_simp
    exact hK.out _ _ (Below.refl _ _) rfl _ rfl
  case c_14 =>
    intro wq hbw st  K hK
    simp only [Act.put, List.setIfInBounds_toArray, List.set_cons_zero, List.set_cons_succ] at hK ⊢
    unfold opStep
    rw [if_pos (by rfl)]
    go_simp
    exact hK.out _ _ (Below.refl _ _) rfl _ rfl
  case c_15 =>
    intro wq hbw st  K hK
    simp only [Act.put, List.setIfInBounds_toArray, List.set_cons_zero, List.set_cons_succ] at hK ⊢
    unfold opStep
    rw [if_pos (by rfl)]
    have d0 : wq.cell? ⟨n, 7, none⟩ = some (.int .i64 s.gone) := (HN.out.on (HB.out.2.trans (hbw.mono HB.out.2.size))).box.cell 7
    go_simp
    exact hK.out _ _ (Below.refl _ _) rfl _ rfl
  case c_16 =>
    intro wq hbw st  K hK
    simp only [Act.put, List.setIfInBounds_toArray, List.set_cons_zero, List.set_cons_succ] at hK ⊢
    unfold opStep
    rw [if_pos (by rfl)]
    go_simp
    exact hK.out _ _ (Below.refl _ _) rfl _ rfl
  case c_17 =>
    intro wq hbw st  K hK
    simp only [Act.put, List.setIfInBounds_toArray, List.set_cons_zero, List.set_cons_succ] at hK ⊢
    unfold opStep
    rw [if_pos (by rfl)]
    go_simp
    exact hK.out _ _ (Below.refl _ _) rfl _ rfl
  case c_18 =>
    intro wq hbw st  K hK
    simp only [Act.put, List.setIfInBounds_toArray, List.set_cons_zero, List.set_cons_succ] at hK ⊢
    unfold opStep
    rw [if_pos (by rfl)]
    go_simp
    exact hK.out _ _ (Below.refl _ _) rfl _ rfl
  case c_19 =>
    intro wq hbw st  K hK
    simp only [Act.put, List.setIfInBounds_toArray, List.set_cons_zero, List.set_cons_succ] at hK ⊢
    unfold opStep
    rw [if_pos (by rfl)]
    have d0 : wq.cell? ⟨n, 2, none⟩ = some (.map (some b)) := (HN.out.on (HB.out.2.trans (hbw.mono HB.out.2.size))).box.cell 2
    go_simp
    exact hK.out _ _ (Below.refl _ _) rfl _ rfl
  case c_20 =>
    intro wq hbw st  K hK
    simp only [Act.put, List.setIfInBounds_toArray, List.set_cons_zero, List.set_cons_succ] at hK ⊢
    unfold opStep
    rw [if_pos (by rfl)]
    refine wp_mapv_len 72 (.tmp 22) (by rfl) Try.underlying72 (by rfl) (HM.out.on (HB.out.2.trans (hbw.mono HB.out.2.size))) ?_
    exact hK.out _ _ (Below.refl _ _) rfl _ rfl
  case c_21 =>
    intro wq hbw st  K hK
    simp only [Act.put, List.setIfInBounds_toArray, List.set_cons_zero, List.set_cons_succ] at hK ⊢
    unfold opStep
    rw [if_pos (by rfl)]
    go_simp
    exact hK.out _ _ (Below.refl _ _) rfl _ rfl
  case c_fin =>
    intro wq hbw
    try simp only [FinAll]
    simp only [List.drop_succ_cons, List.drop_zero]
    simp only [Act.put, List.setIfInBounds_toArray, List.set_cons_zero, List.set_cons_succ]
    have HQ := Lib.hid (And.intro (HB.out.1.on hbw) (HB.out.2.trans (hbw.mono HB.out.2.size)))
    clear hbw
    refine wpList_store_box rfl 57 (.tmp 2) (.tmp 24) rfl w.heap.size 57 _ #[.int .i64 s.sent, .int .i64 s.twice, .int .i64 s.taken, .int .i64 s.gone, .int .i64 (s.cnt : Int)] rfl rfl HQ.out.1 (by kernel_rfl) rfl (by simp [Value.oneCell']) ?_
    intro w4 hB4 hk4
    have HL := Lib.hid (run_loadVar_mid (P := Try.prog) w4 w.heap.size 0 57 _ _ (Blk.range hB4) Try.underlying57 rfl (by kernel_rfl))
    have HG : Hid (Below w.heap.size w w4) := Lib.hid (HQ.out.2.trans (hk4.below HQ.out.2.size fun k hk e => by omega))
    clear hB4 hk4
    go_wp2
    refine bodyPost_ret (results_cell rfl rfl HL.out) rfl (HF.out _ _ ⟨rfl, HG.out⟩)
end
def exM : MsgM := ⟨1, 0, 1, 0, 0, 0, [], [], [], [], [], [], [], 7, []⟩
def exC : List Value := [.int .i64 1, .int .i64 0, .int .i64 1, .int .i64 0, .int .i64 0, .int .i64 0, .slice none 0 0, .slice none 0 0, .slice none 0 0, .slice none 0 0, .slice none 0 0, .slice none 0 0, .slice none 0 0, .int .i64 7, .slice none 0 0]
theorem ex_cells (P : Nat → Prop) (w : World) : CellsD P w exC (msgD exM) := by
  have hn : ∀ K, ReadsD P w (.slice none 0 0) (.ls K []) := fun K => .nil K none 0 (by simp [maxLen]) fun _ => rfl
  exact .mk (readsD_i _ _ _) (.mk (readsD_i _ _ _) (.mk (readsD_i _ _ _) (.mk (readsD_i _ _ _) (.mk (readsD_i _ _ _) (.mk (readsD_i _ _ _) (.mk (hn _) (.mk (hn _) (.mk (hn _) (.mk (hn _) (.mk (hn _) (.mk (hn _) (.mk (hn _) (.mk (readsD_i _ _ _) (.mk (hn _) .empty))))))))))))))
def exS1 : NetS := putS { newS 9 with sent := 0 + 1 } exM
def exS2 : NetS := putS { exS1 with twice := 0 + 1 } exM
def exS3 : NetS := { exS2 with cnt := 2 - 1, ms := updM exS2.ms 2 none, taken := 0 + 1 }
theorem ex1 : sendR (newS 9) exM = (1, 0, exS1) := by
  unfold sendR
  rw [if_pos (by decide), if_neg (by decide)]
  rfl
theorem ex2 : dupR exS1 1 = (2, 0, exS2) := by
  have h : exS1.ms 1 = some exM := rfl
  unfold dupR
  rw [h]
  simp only
  rw [if_neg (by decide)]
  rfl
theorem ex3 : delR exS2 2 = (exM, 0, exS3) := by
  have h : exS2.ms 2 = some exM := rfl
  unfold delR
  rw [h]
  simp only
  rw [if_pos (by decide)]
  rfl
set_option maxHeartbeats 4000000 in
theorem awake_any (W : World) : Calls Try.prog 8 #[] W (BoolMade W true) := by
  have HF : Hid (∀ e w', e = .returned (.bool true) ∧ Below W.heap.size W w' → BoolMade W true e w') := Lib.hid fun _ _ h => h
  generalize hQ : BoolMade W true = Q at *
  clear hQ
  go_enter Try.func8, Try.ntmps8
  go_wp2_with fail
  refine (new_yes 9 W (by unfold okL; omega)).mono ?_
  rintro e w1 ⟨n, b, rfl, hn, hb, hnl, hbl⟩
  have HN1 : Hid (NetAt (fun k => W.heap.size ≤ k) n b (.map none) (newS 9) w1) := Lib.hid (hn.mono fun k hk _ => by rcases hk with rfl | rfl; exact hnl; exact hbl)
  have HB1 := Lib.hid hb
  have HLE := Lib.hid (And.intro hnl hbl)
  clear hn hb hnl hbl
  have HC1 := Lib.hid (send_any exM exC HN1.out (ex_cells _ w1) (fun k hk => Nat.le_trans HB1.out.size hk) (by decide) (by decide) (by decide) (by decide) (by decide) rfl)
  rw [ex1] at HC1
  go_wp2_with fail
  refine HC1.out.mono ?_
  rintro e w2 ⟨rfl, hn2, hk2⟩
  have HN2 := Lib.hid hn2
  have HB2 : Hid (Below W.heap.size W w2) := Lib.hid (HB1.out.trans (hk2.below HB1.out.size fun k hk e => by have := HLE.out; omega))
  clear hn2 hk2 HC1 HN1 HB1
  have HC2 := Lib.hid (duplicate_any 1 (by unfold I64; omega) HN2.out (fun k hk => Nat.le_trans HB2.out.size hk) (by decide) (by decide) (by decide) (by decide) (by decide) rfl)
  rw [ex2] at HC2
  go_wp2_with fail
  refine HC2.out.mono ?_
  rintro e w3 ⟨rfl, hn3, hk3⟩
  have HN3 := Lib.hid hn3
  have HB3 : Hid (Below W.heap.size W w3) := Lib.hid (HB2.out.trans (hk3.below HB2.out.size fun k hk e => by have := HLE.out; omega))
  clear hn3 hk3 HC2 HN2 HB2
  have HC3 := Lib.hid (deliver_any 2 (by unfold I64; omega) HN3.out (by decide) (by decide))
  rw [ex3] at HC3
  go_wp2_with fail
  refine HC3.out.mono ?_
  rintro e w4 ⟨cs, rfl, hn4, hk4, hc4⟩
  have HN4 := Lib.hid hn4
  have HB4 : Hid (Below W.heap.size W w4) := Lib.hid (HB3.out.trans (hk4.below HB3.out.size fun k hk e => by have := HLE.out; omega))
  have HLEN := Lib.hid (msg_len hc4)
  have HONE := Lib.hid (CellsD.all hc4)
  have HFT := Lib.hid (msg_ft hc4)
  have HS : Hid (Blk (w4.alloc (.cells zeroC.toArray 39)) w4.heap.size 39 zeroC.toArray) := Lib.hid (Blk.new w4 _ _)
  clear hn4 hk4 hc4 HC3 HN3 HB3
  go_upto_region 7 with ((refine wpList_store_msg rfl (.tmp 7) (.tmp 33) rfl w4.heap.size zeroC.toArray cs rfl rfl HS.out rfl HLEN.out HONE.out ?_; intro w5 hB5 hk5))
  have HB5 : Hid (Below w4.heap.size w4 w5) := Lib.hid (((Kept.of ((Below.refl w4.heap.size w4).alloc (Nat.le_refl _) (.cells zeroC.toArray 39)) : Kept (fun b => b = w4.heap.size) w4 _).trans hk5).below (Nat.le_refl _) fun k hk e => by omega)
  have d1 : w5.cell? ⟨w4.heap.size, 13, none⟩ = some (.int .i64 7) := by rw [hB5.cell, List.getElem?_toArray]; exact HFT.out.2.2
  clear hB5 hk5 HS
  have HC5 := Lib.hid (counts_any (HN4.out.on HB5.out))
  go_wp2_with fail
  refine HC5.out.mono ?_
  rintro e w6 ⟨rfl, hb6⟩
  have HB6 : Hid (Below W.heap.size W w6) := Lib.hid ((HB4.out.trans (HB5.out.mono HB4.out.size)).trans (hb6.mono (Nat.le_trans HB4.out.size HB5.out.size)))
  clear hb6 d1 HC5
  change Hid (Below W.heap.size W w6) at HB6
  go_wp2_with fail
  exact HF.out _ _ ⟨rfl, HB6.out⟩
end Go.Proofs.Ytmcdmcnbnnfhnaa
