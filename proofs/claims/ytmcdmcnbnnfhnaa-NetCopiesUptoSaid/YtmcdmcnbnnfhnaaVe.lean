/-
  Chapter 28: Send and Duplicate.
-/
import Derived.Test.YtmcdmcnbnnfhnaaVd
namespace Go.Proofs.Ytmcdmcnbnnfhnaa
open Go.RowKit

def OpMade (P : Nat → Prop) (n b : Nat) (gv : Value) (v : Value) (r : Int) (s' : NetS) (w : World) (e : Ending) (w' : World) : Prop := e = .returned (.tuple #[v, .int .i64 r]) ∧ NetAt P n b gv s' w' ∧ Kept (fun k => k = n ∨ k = b) w w'
def sendR (s : NetS) (m : MsgM) : Int × Int × NetS :=
  if (procB m.frm && procB m.to) = true then (if s.limit ≤ (s.cnt : Int) then (0, 7, s) else (s.last + 1, 0, putS { s with sent := s.sent + 1 } m)) else (0, 1, s)
def dupR (s : NetS) (x : Int) : Int × Int × NetS :=
  match s.ms x with
  | none => (0, 14, s)
  | some m => if s.limit ≤ (s.cnt : Int) then (0, 7, s) else (s.last + 1, 0, putS { s with twice := s.twice + 1 } m)
section
variable {P : Nat → Prop} {n b : Nat} {gv : Value} {s : NetS} {w : World}
set_option maxRecDepth 100000
set_option maxHeartbeats 4000000
theorem send_any (m : MsgM) (cs : List Value) (h : NetAt P n b gv s w) (hm : CellsD (fun k => k ≠ n ∧ k ≠ b) w cs (msgD m)) (hP : ∀ k, w.heap.size ≤ k → P k)
    (hl : 0 ≤ s.last) (hl2 : s.last < 4611686018427387904) (hs : 0 ≤ s.sent) (hs2 : s.sent < 4611686018427387904) (hc : s.cnt < 1000000000) (hn : s.ms (s.last + 1) = none) :
    Calls Try.prog 11 #[.pointer (some ⟨n, 0, none⟩), .agg cs.toArray] w (OpMade P n b gv (.int .i64 (sendR s m).1) (sendR s m).2.1 (sendR s m).2.2 w) := by
  have HF : Hid (∀ r1 r2 s' e w', e = .returned (.tuple #[.int .i64 r1, .int .i64 r2]) ∧ NetAt P n b gv s' w' ∧ Kept (fun k => k = n ∨ k = b) w w' → OpMade P n b gv (.int .i64 r1) r2 s' w e w') := Lib.hid fun _ _ _ _ _ h => h
  have HN := Lib.hid h
  have HM := Lib.hid hm
  have HLEN := Lib.hid (msg_len hm)
  have HP := Lib.hid hP
  have HL := Lib.hid (And.intro hl hl2)
  have HC := Lib.hid hc
  have HNO := Lib.hid hn
  have HFT := Lib.hid (msg_ft hm)
  have HPA := Lib.hid fun W => process_any m.frm W
  have HPC := Lib.hid fun W => process_any m.to W
  clear h hm hP hc hn hl hl2
  have HB : Hid (Blk (w.alloc (.cells cs.toArray 39)) w.heap.size 39 cs.toArray ∧ Below w.heap.size w (w.alloc (.cells cs.toArray 39))) := Lib.hid ⟨Blk.new w _ _, (Below.refl _ _).alloc (Nat.le_refl _) _⟩
  have HD : Hid ((w.alloc (.cells cs.toArray 39)).cell? ⟨w.heap.size, 1, none⟩ = some (.int .i64 m.frm) ∧ (w.alloc (.cells cs.toArray 39)).cell? ⟨w.heap.size, 2, none⟩ = some (.int .i64 m.to)) := Lib.hid ⟨by rw [HB.out.1.cell, List.getElem?_toArray]; exact HFT.out.1, by rw [HB.out.1.cell, List.getElem?_toArray]; exact HFT.out.2.1⟩
  unfold sendR
  cases hpa : procB m.frm with
  | false =>
    simp only [Bool.false_and, Bool.false_eq_true, if_false]
    rw [hpa] at HPA
    clear hpa
    have HF2 := Lib.hid (HF.out 0 1 s)
    generalize hQ : OpMade P n b gv (.int .i64 0) 1 s w = Q at *
    clear HF hQ
    go_enter Try.func11, Try.ntmps11
    go_upto_region 1 with fail
    generalize hw1 : World.alloc w _ = w1 at HB HD ⊢
    clear hw1
    have d1 := HD.out.1
    have d2 := HD.out.2
    go_wp2_with fail
    refine (HPA.out _).mono ?_
    rintro e w' ⟨rfl, rfl⟩
    go_wp2_with fail
    exact HF2.out _ _ ⟨rfl, HN.out.on HB.out.2, Kept.of HB.out.2⟩
  | true =>
  rw [hpa] at HPA
  cases hpc : procB m.to with
  | false =>
    simp only [Bool.and_false, Bool.false_eq_true, if_false]
    rw [hpc] at HPC
    clear hpa hpc
    have HF2 := Lib.hid (HF.out 0 1 s)
    generalize hQ : OpMade P n b gv (.int .i64 0) 1 s w = Q at *
    clear HF hQ
    go_enter Try.func11, Try.ntmps11
    go_upto_region 1 with fail
    generalize hw1 : World.alloc w _ = w1 at HB HD ⊢
    clear hw1
    have d1 := HD.out.1
    have d2 := HD.out.2
    go_wp2_with fail
    refine (HPA.out _).mono ?_
    rintro e w' ⟨rfl, rfl⟩
    go_wp2_with fail
    refine (HPC.out _).mono ?_
    rintro e w' ⟨rfl, rfl⟩
    go_wp2_with fail
    exact HF2.out _ _ ⟨rfl, HN.out.on HB.out.2, Kept.of HB.out.2⟩
  | true =>
  rw [hpc] at HPC
  simp only [Bool.and_self, if_true]
  clear hpa hpc
  obtain ⟨M, hM, hM2⟩ := HN.out.way
  have HMM := Lib.hid hM
  clear hM hM2
  by_cases hfull : s.limit ≤ (s.cnt : Int)
  · rw [if_pos hfull]
    have HFL : Hid (decide (s.limit ≤ (s.cnt : Int)) = true) := Lib.hid (by simpa using hfull)
    clear hfull
    have HF2 := Lib.hid (HF.out 0 7 s)
    generalize hQ : OpMade P n b gv (.int .i64 0) 7 s w = Q at *
    clear HF hQ
    go_enter Try.func11, Try.ntmps11
    go_upto_region 1 with fail
    generalize hw1 : World.alloc w _ = w1 at HB HD ⊢
    clear hw1
    have d1 := HD.out.1
    have d2 := HD.out.2
    go_wp2_with fail
    refine (HPA.out _).mono ?_
    rintro e w' ⟨rfl, rfl⟩
    go_wp2_with fail
    refine (HPC.out _).mono ?_
    rintro e w' ⟨rfl, rfl⟩
    go_wp2_with fail
    clear d1 d2 HD
    refine region_left [.is (.pointer (some ⟨n, 0, none⟩)), .is (.pointer (some ⟨n, 0, none⟩)), .is (.pointer (some ⟨n, 2, none⟩)), .is (.map (some b)), .is (.int .i64 (s.cnt : Int)), .is (.pointer (some ⟨n, 0, none⟩)), .is (.pointer (some ⟨n, 0, none⟩)), .is (.pointer (some ⟨n, 0, none⟩)), .is (.int .i64 s.limit), .is (.bool true)] (by kernel_rfl) rfl (by kernel_rfl) (by kernel_rfl) (.cons ?a_0 (.cons ?a_1 (.cons ?a_2 (.cons ?a_3 (.cons ?a_4 (.cons ?a_5 (.cons ?a_6 (.cons ?a_7 (.cons ?a_8 (.cons ?a_9 .nil)))))))))) ?a_fin
    case a_0 =>
      intro wq hbw st  K hK
      simp only [Act.put, List.setIfInBounds_toArray, List.set_cons_zero, List.set_cons_succ] at hK ⊢
      unfold opStep
      rw [if_pos (by rfl)]
      go_simp
      exact hK.out _ _ (Below.refl _ _) rfl _ rfl
    case a_1 =>
      intro wq hbw st  K hK
      simp only [Act.put, List.setIfInBounds_toArray, List.set_cons_zero, List.set_cons_succ] at hK ⊢
      unfold opStep
      rw [if_pos (by rfl)]
      go_simp
      exact hK.out _ _ (Below.refl _ _) rfl _ rfl
    case a_2 =>
      intro wq hbw st  K hK
      simp only [Act.put, List.setIfInBounds_toArray, List.set_cons_zero, List.set_cons_succ] at hK ⊢
      unfold opStep
      rw [if_pos (by rfl)]
      go_simp
      exact hK.out _ _ (Below.refl _ _) rfl _ rfl
    case a_3 =>
      intro wq hbw st  K hK
      simp only [Act.put, List.setIfInBounds_toArray, List.set_cons_zero, List.set_cons_succ] at hK ⊢
      unfold opStep
      rw [if_pos (by rfl)]
      have d0 : wq.cell? ⟨n, 2, none⟩ = some (.map (some b)) := (HN.out.on (HB.out.2.trans (hbw.mono HB.out.2.size))).box.cell 2
      go_simp
      exact hK.out _ _ (Below.refl _ _) rfl _ rfl
    case a_4 =>
      intro wq hbw st  K hK
      simp only [Act.put, List.setIfInBounds_toArray, List.set_cons_zero, List.set_cons_succ] at hK ⊢
      unfold opStep
      rw [if_pos (by rfl)]
      refine wp_mapv_len 72 (.tmp 19) (by rfl) Try.underlying72 (by rfl) (HMM.out.on (HB.out.2.trans (hbw.mono HB.out.2.size))) ?_
      exact hK.out _ _ (Below.refl _ _) rfl _ rfl
    case a_5 =>
      intro wq hbw st  K hK
      simp only [Act.put, List.setIfInBounds_toArray, List.set_cons_zero, List.set_cons_succ] at hK ⊢
      unfold opStep
      rw [if_pos (by rfl)]
      go_simp
      exact hK.out _ _ (Below.refl _ _) rfl _ rfl
    case a_6 =>
      intro wq hbw st  K hK
      simp only [Act.put, List.setIfInBounds_toArray, List.set_cons_zero, List.set_cons_succ] at hK ⊢
      unfold opStep
      rw [if_pos (by rfl)]
      go_simp
      exact hK.out _ _ (Below.refl _ _) rfl _ rfl
    case a_7 =>
      intro wq hbw st  K hK
      simp only [Act.put, List.setIfInBounds_toArray, List.set_cons_zero, List.set_cons_succ] at hK ⊢
      unfold opStep
      rw [if_pos (by rfl)]
      go_simp
      exact hK.out _ _ (Below.refl _ _) rfl _ rfl
    case a_8 =>
      intro wq hbw st  K hK
      simp only [Act.put, List.setIfInBounds_toArray, List.set_cons_zero, List.set_cons_succ] at hK ⊢
      unfold opStep
      rw [if_pos (by rfl)]
      have d0 : wq.cell? ⟨n, 0, none⟩ = some (.int .i64 s.limit) := (HN.out.on (HB.out.2.trans (hbw.mono HB.out.2.size))).box.cell 0
      go_simp
      exact hK.out _ _ (Below.refl _ _) rfl _ rfl
    case a_9 =>
      intro wq hbw st  K hK
      simp only [Act.put, List.setIfInBounds_toArray, List.set_cons_zero, List.set_cons_succ] at hK ⊢
      unfold opStep
      rw [if_pos (by rfl)]
      have nn := HFL.out
      go_simp
      exact hK.out _ _ (Below.refl _ _) rfl _ rfl
    case a_fin =>
      intro wq hbw
      try simp only [FinAll]
      simp only [Act.put, List.setIfInBounds_toArray, List.set_cons_zero, List.set_cons_succ]
      have KQ := Lib.hid (HB.out.2.trans (hbw.mono HB.out.2.size))
      clear hbw
      go_wp2
      exact HF2.out _ _ ⟨rfl, HN.out.on KQ.out, Kept.of KQ.out⟩
  · rw [if_neg hfull]
    have HFL : Hid (decide (s.limit ≤ (s.cnt : Int)) = false) := Lib.hid (by simpa using hfull)
    clear hfull
    have HF2 := Lib.hid (HF.out (s.last + 1) 0 (putS { s with sent := s.sent + 1 } m))
    generalize hQ : OpMade P n b gv (.int .i64 (s.last + 1)) 0 (putS { s with sent := s.sent + 1 } m) w = Q at *
    clear HF hQ
    go_enter Try.func11, Try.ntmps11
    go_upto_region 1 with fail
    generalize hw1 : World.alloc w _ = w1 at HB HD ⊢
    clear hw1
    have d1 := HD.out.1
    have d2 := HD.out.2
    go_wp2_with fail
    refine (HPA.out _).mono ?_
    rintro e w' ⟨rfl, rfl⟩
    go_wp2_with fail
    refine (HPC.out _).mono ?_
    rintro e w' ⟨rfl, rfl⟩
    go_wp2_with fail
    clear d1 d2 HD
    refine region_left [.is (.pointer (some ⟨n, 0, none⟩)), .is (.pointer (some ⟨n, 0, none⟩)), .is (.pointer (some ⟨n, 2, none⟩)), .is (.map (some b)), .is (.int .i64 (s.cnt : Int)), .is (.pointer (some ⟨n, 0, none⟩)), .is (.pointer (some ⟨n, 0, none⟩)), .is (.pointer (some ⟨n, 0, none⟩)), .is (.int .i64 s.limit), .is (.bool false)] (by kernel_rfl) rfl (by kernel_rfl) (by kernel_rfl) (.cons ?b_0 (.cons ?b_1 (.cons ?b_2 (.cons ?b_3 (.cons ?b_4 (.cons ?b_5 (.cons ?b_6 (.cons ?b_7 (.cons ?b_8 (.cons ?b_9 .nil)))))))))) ?b_fin
    case b_0 =>
      intro wq hbw st  K hK
      simp only [Act.put, List.setIfInBounds_toArray, List.set_cons_zero, List.set_cons_succ] at hK ⊢
      unfold opStep
      rw [if_pos (by rfl)]
      go_simp
      exact hK.out _ _ (Below.refl _ _) rfl _ rfl
    case b_1 =>
      intro wq hbw st  K hK
      simp only [Act.put, List.setIfInBounds_toArray, List.set_cons_zero, List.set_cons_succ] at hK ⊢
      unfold opStep
      rw [if_pos (by rfl)]
      go_simp
      exact hK.out _ _ (Below.refl _ _) rfl _ rfl
    case b_2 =>
      intro wq hbw st  K hK
      simp only [Act.put, List.setIfInBounds_toArray, List.set_cons_zero, List.set_cons_succ] at hK ⊢
      unfold opStep
      rw [if_pos (by rfl)]
      go_simp
      exact hK.out _ _ (Below.refl _ _) rfl _ rfl
    case b_3 =>
      intro wq hbw st  K hK
      simp only [Act.put, List.setIfInBounds_toArray, List.set_cons_zero, List.set_cons_succ] at hK ⊢
      unfold opStep
      rw [if_pos (by rfl)]
      have d0 : wq.cell? ⟨n, 2, none⟩ = some (.map (some b)) := (HN.out.on (HB.out.2.trans (hbw.mono HB.out.2.size))).box.cell 2
      go_simp
      exact hK.out _ _ (Below.refl _ _) rfl _ rfl
    case b_4 =>
      intro wq hbw st  K hK
      simp only [Act.put, List.setIfInBounds_toArray, List.set_cons_zero, List.set_cons_succ] at hK ⊢
      unfold opStep
      rw [if_pos (by rfl)]
      refine wp_mapv_len 72 (.tmp 19) (by rfl) Try.underlying72 (by rfl) (HMM.out.on (HB.out.2.trans (hbw.mono HB.out.2.size))) ?_
      exact hK.out _ _ (Below.refl _ _) rfl _ rfl
    case b_5 =>
      intro wq hbw st  K hK
      simp only [Act.put, List.setIfInBounds_toArray, List.set_cons_zero, List.set_cons_succ] at hK ⊢
      unfold opStep
      rw [if_pos (by rfl)]
      go_simp
      exact hK.out _ _ (Below.refl _ _) rfl _ rfl
    case b_6 =>
      intro wq hbw st  K hK
      simp only [Act.put, List.setIfInBounds_toArray, List.set_cons_zero, List.set_cons_succ] at hK ⊢
      unfold opStep
      rw [if_pos (by rfl)]
      go_simp
      exact hK.out _ _ (Below.refl _ _) rfl _ rfl
    case b_7 =>
      intro wq hbw st  K hK
      simp only [Act.put, List.setIfInBounds_toArray, List.set_cons_zero, List.set_cons_succ] at hK ⊢
      unfold opStep
      rw [if_pos (by rfl)]
      go_simp
      exact hK.out _ _ (Below.refl _ _) rfl _ rfl
    case b_8 =>
      intro wq hbw st  K hK
      simp only [Act.put, List.setIfInBounds_toArray, List.set_cons_zero, List.set_cons_succ] at hK ⊢
      unfold opStep
      rw [if_pos (by rfl)]
      have d0 : wq.cell? ⟨n, 0, none⟩ = some (.int .i64 s.limit) := (HN.out.on (HB.out.2.trans (hbw.mono HB.out.2.size))).box.cell 0
      go_simp
      exact hK.out _ _ (Below.refl _ _) rfl _ rfl
    case b_9 =>
      intro wq hbw st  K hK
      simp only [Act.put, List.setIfInBounds_toArray, List.set_cons_zero, List.set_cons_succ] at hK ⊢
      unfold opStep
      rw [if_pos (by rfl)]
      have nn := HFL.out
      go_simp
      exact hK.out _ _ (Below.refl _ _) rfl _ rfl
    case b_fin =>
      intro wq hbw
      try simp only [FinAll]
      simp only [Act.put, List.setIfInBounds_toArray, List.set_cons_zero, List.set_cons_succ]
      have KQ := Lib.hid (HB.out.2.trans (hbw.mono HB.out.2.size))
      have HBX := Lib.hid (HB.out.1.on hbw)
      clear hbw HB HMM HPA HPC HFT HFL
      have HNQ := Lib.hid (HN.out.on KQ.out)
      have d4 : wq.cell? ⟨n, 4, none⟩ = some (.int .i64 s.sent) := HNQ.out.box.cell 4
      have f4 : wq.frozen? ⟨n, 4, none⟩ = false := HNQ.out.box.frozen 4
      have z4 : n < wq.heap.size := HNQ.out.box.lt
      go_upto_region 6 with fail
      have H3 : Hid (NetAt P n b gv { s with sent := s.sent + 1 } (World.setCell wq ⟨n, 4, none⟩ (.int .i64 (s.sent + 1))) ∧ Blk (World.setCell wq ⟨n, 4, none⟩ (.int .i64 (s.sent + 1))) w.heap.size 39 cs.toArray ∧ Kept (fun k => k = n) w (World.setCell wq ⟨n, 4, none⟩ (.int .i64 (s.sent + 1)))) := Lib.hid ⟨HNQ.out.set (s' := { s with sent := s.sent + 1 }) 4 (.int .i64 (s.sent + 1)) rfl rfl rfl rfl, HBX.out.far (p := ⟨n, 4, none⟩) (by have := HN.out.box.lt; show w.heap.size ≠ n; omega) _, (Kept.of KQ.out).trans (Kept.set (S := fun k => k = n) (p := ⟨n, 4, none⟩) _ rfl)⟩
      generalize hw3 : World.setCell wq _ _ = w3 at H3 ⊢
      clear hw3 d4 f4 z4 HBX KQ HNQ
      have HM3 : Hid (CellsD (fun k => k ≠ n ∧ k ≠ b) w3 cs (msgD m)) := Lib.hid ⟨HM.out.1, fun i u d e1 e2 => (HM.out.2 i u d e1 e2).kept H3.out.2.2 fun k hk => hk.1⟩
      have HCL := Lib.hid (put_any n b gv { s with sent := s.sent + 1 } m cs w3 H3.out.1 HM3.out (fun k hk => HP.out k (Nat.le_trans H3.out.2.2.size hk)) HL.out.1 HL.out.2 HC.out HNO.out)
      go_wp2_with (refine wpList_load_msg rfl (.tmp 3) rfl w.heap.size cs rfl H3.out.2.1 HLEN.out ?_)
      refine HCL.out.mono ?_
      rintro e w4 ⟨rfl, hn4, hk4⟩
      have H4 := Lib.hid (And.intro hn4 ((H3.out.2.2.mono (S' := fun k => k = n ∨ k = b) fun k _ h => .inl h).trans hk4))
      clear hn4 hk4 HCL
      go_wp2_with fail
      exact HF2.out _ _ ⟨rfl, H4.out.1, H4.out.2⟩
theorem duplicate_any (x : Int) (hx : I64 x) (h : NetAt P n b gv s w) (hP : ∀ k, w.heap.size ≤ k → P k)
    (hl : 0 ≤ s.last) (hl2 : s.last < 4611686018427387904) (hs : 0 ≤ s.twice) (hs2 : s.twice < 4611686018427387904) (hc : s.cnt < 1000000000) (hn : s.ms (s.last + 1) = none) :
    Calls Try.prog 15 #[.pointer (some ⟨n, 0, none⟩), .int .i64 x] w (OpMade P n b gv (.int .i64 (dupR s x).1) (dupR s x).2.1 (dupR s x).2.2 w) := by
  have HF : Hid (∀ r1 r2 s' e w', e = .returned (.tuple #[.int .i64 r1, .int .i64 r2]) ∧ NetAt P n b gv s' w' ∧ Kept (fun k => k = n ∨ k = b) w w' → OpMade P n b gv (.int .i64 r1) r2 s' w e w') := Lib.hid fun _ _ _ _ _ h => h
  have HN := Lib.hid h
  have HP := Lib.hid hP
  have HL := Lib.hid (And.intro hl hl2)
  have HC := Lib.hid hc
  have HNO := Lib.hid hn
  have HX := Lib.hid hx
  obtain ⟨M, hM, hM2⟩ := h.way
  have HMM := Lib.hid hM
  have d2 : w.cell? ⟨n, 2, none⟩ = some (.map (some b)) := h.box.cell 2
  have HS : Hid (Blk (w.alloc (.cells zeroC.toArray 39)) w.heap.size 39 zeroC.toArray) := Lib.hid (Blk.new w _ _)
  clear h hP hc hn hl hl2 hx
  unfold dupR
  cases hms : s.ms x with
  | none =>
    have HV : Hid ((M x).getD (.agg zeroC.toArray) = .agg zeroC.toArray ∧ (M x).isSome = false) := Lib.hid (by rw [(hM2 x HX.out).1 hms]; exact ⟨rfl, rfl⟩)
    have HZL : Hid (zeroC.length = 15) := Lib.hid rfl
    have HZ1 : Hid (zeroC.toArray.all (·.oneCell') = true) := Lib.hid (CellsD.all (zero_cells (fun _ => True) w))
    clear hM hM2 hms
    have HF2 := Lib.hid (HF.out 0 14 s)
    simp only
    generalize hQ : OpMade P n b gv (.int .i64 0) 14 s w = Q at *
    clear HF hQ
    go_enter Try.func15, Try.ntmps15
    go_upto_region 2 with (first | (refine wpList_mapv_ok rfl 72 (.tmp 12) (.tmp 13) rfl Try.underlying72 zeroMsg_run rfl HMM.out rfl HX.out HV.out.1 HV.out.2 ?_) | (refine wpList_store_msg rfl (.tmp 6) (.tmp 15) rfl w.heap.size zeroC.toArray zeroC rfl rfl HS.out rfl HZL.out HZ1.out ?_; intro w1 hB1 hk1))
    have HB : Hid (Blk w1 w.heap.size 39 zeroC.toArray ∧ Below w.heap.size w w1) := Lib.hid ⟨hB1, ((Kept.of ((Below.refl w.heap.size w).alloc (Nat.le_refl _) (.cells zeroC.toArray 39)) : Kept (fun b => b = w.heap.size) w _).trans hk1).below (Nat.le_refl _) fun k hk e => by omega⟩
    clear hB1 hk1 d2 HS
    go_wp2_with fail
    exact HF2.out _ _ ⟨rfl, HN.out.on HB.out.2, Kept.of HB.out.2⟩
  | some m =>
  obtain ⟨cs, hc1, hc2⟩ := (hM2 x HX.out).2 m hms
  have HV : Hid ((M x).getD (.agg zeroC.toArray) = .agg cs.toArray ∧ (M x).isSome = true) := Lib.hid (by rw [hc1]; exact ⟨rfl, rfl⟩)
  have HM : Hid (CellsD (fun k => k ≠ n ∧ k ≠ b) w cs (msgD m)) := Lib.hid (hc2.mono fun k hk _ => hk.2)
  have HLEN := Lib.hid (msg_len hc2)
  have HC1 := Lib.hid (CellsD.all hc2)
  clear hM hM2 hms hc1 hc2
  simp only
  by_cases hfull : s.limit ≤ (s.cnt : Int)
  · rw [if_pos hfull]
    have HFL : Hid (decide (s.limit ≤ (s.cnt : Int)) = true) := Lib.hid (by simpa using hfull)
    clear hfull
    have HF2 := Lib.hid (HF.out 0 7 s)
    generalize hQ : OpMade P n b gv (.int .i64 0) 7 s w = Q at *
    clear HF hQ
    go_enter Try.func15, Try.ntmps15
    go_upto_region 2 with (first | (refine wpList_mapv_ok rfl 72 (.tmp 12) (.tmp 13) rfl Try.underlying72 zeroMsg_run rfl HMM.out rfl HX.out HV.out.1 HV.out.2 ?_) | (refine wpList_store_msg rfl (.tmp 6) (.tmp 15) rfl w.heap.size zeroC.toArray cs rfl rfl HS.out rfl HLEN.out HC1.out ?_; intro w1 hB1 hk1))
    have HB : Hid (Blk w1 w.heap.size 39 cs.toArray ∧ Below w.heap.size w w1) := Lib.hid ⟨hB1, ((Kept.of ((Below.refl w.heap.size w).alloc (Nat.le_refl _) (.cells zeroC.toArray 39)) : Kept (fun b => b = w.heap.size) w _).trans hk1).below (Nat.le_refl _) fun k hk e => by omega⟩
    clear hB1 hk1 d2 HS
    go_wp2_with fail
    refine region_left [.is (.pointer (some ⟨n, 0, none⟩)), .is (.pointer (some ⟨n, 0, none⟩)), .is (.pointer (some ⟨n, 2, none⟩)), .is (.map (some b)), .is (.int .i64 (s.cnt : Int)), .is (.pointer (some ⟨n, 0, none⟩)), .is (.pointer (some ⟨n, 0, none⟩)), .is (.pointer (some ⟨n, 0, none⟩)), .is (.int .i64 s.limit), .is (.bool true)] (by kernel_rfl) rfl (by kernel_rfl) (by kernel_rfl) (.cons ?c_0 (.cons ?c_1 (.cons ?c_2 (.cons ?c_3 (.cons ?c_4 (.cons ?c_5 (.cons ?c_6 (.cons ?c_7 (.cons ?c_8 (.cons ?c_9 .nil)))))))))) ?c_fin
    case c_0 =>
      intro wq hbw st  K hK
      simp only [Act.put, List.setIfInBounds_toArray, List.set_cons_zero, List.set_cons_succ] at hK ⊢
      unfold opStep
      rw [if_pos (by rfl)]
      go_simp
      exact hK.out _ _ (Below.refl _ _) rfl _ rfl
    case c_1 =>
      intro wq hbw st  K hK
      simp only [Act.put, List.setIfInBounds_toArray, List.set_cons_zero, List.set_cons_succ] at hK ⊢
      unfold opStep
      rw [if_pos (by rfl)]
      go_simp
      exact hK.out _ _ (Below.refl _ _) rfl _ rfl
    case c_2 =>
      intro wq hbw st  K hK
      simp only [Act.put, List.setIfInBounds_toArray, List.set_cons_zero, List.set_cons_succ] at hK ⊢
      unfold opStep
      rw [if_pos (by rfl)]
      go_simp
      exact hK.out _ _ (Below.refl _ _) rfl _ rfl
    case c_3 =>
      intro wq hbw st  K hK
      simp only [Act.put, List.setIfInBounds_toArray, List.set_cons_zero, List.set_cons_succ] at hK ⊢
      unfold opStep
      rw [if_pos (by rfl)]
      have d0 : wq.cell? ⟨n, 2, none⟩ = some (.map (some b)) := (HN.out.on (HB.out.2.trans (hbw.mono HB.out.2.size))).box.cell 2
      go_simp
      exact hK.out _ _ (Below.refl _ _) rfl _ rfl
    case c_4 =>
      intro wq hbw st  K hK
      simp only [Act.put, List.setIfInBounds_toArray, List.set_cons_zero, List.set_cons_succ] at hK ⊢
      unfold opStep
      rw [if_pos (by rfl)]
      refine wp_mapv_len 72 (.tmp 22) (by rfl) Try.underlying72 (by rfl) (HMM.out.on (HB.out.2.trans (hbw.mono HB.out.2.size))) ?_
      exact hK.out _ _ (Below.refl _ _) rfl _ rfl
    case c_5 =>
      intro wq hbw st  K hK
      simp only [Act.put, List.setIfInBounds_toArray, List.set_cons_zero, List.set_cons_succ] at hK ⊢
      unfold opStep
      rw [if_pos (by rfl)]
      go_simp
      exact hK.out _ _ (Below.refl _ _) rfl _ rfl
    case c_6 =>
      intro wq hbw st  K hK
      simp only [Act.put, List.setIfInBounds_toArray, List.set_cons_zero, List.set_cons_succ] at hK ⊢
      unfold opStep
      rw [if_pos (by rfl)]
      go_simp
      exact hK.out _ _ (Below.refl _ _) rfl _ rfl
    case c_7 =>
      intro wq hbw st  K hK
      simp only [Act.put, List.setIfInBounds_toArray, List.set_cons_zero, List.set_cons_succ] at hK ⊢
      unfold opStep
      rw [if_pos (by rfl)]
      go_simp
      exact hK.out _ _ (Below.refl _ _) rfl _ rfl
    case c_8 =>
      intro wq hbw st  K hK
      simp only [Act.put, List.setIfInBounds_toArray, List.set_cons_zero, List.set_cons_succ] at hK ⊢
      unfold opStep
      rw [if_pos (by rfl)]
      have d0 : wq.cell? ⟨n, 0, none⟩ = some (.int .i64 s.limit) := (HN.out.on (HB.out.2.trans (hbw.mono HB.out.2.size))).box.cell 0
      go_simp
      exact hK.out _ _ (Below.refl _ _) rfl _ rfl
    case c_9 =>
      intro wq hbw st  K hK
      simp only [Act.put, List.setIfInBounds_toArray, List.set_cons_zero, List.set_cons_succ] at hK ⊢
      unfold opStep
      rw [if_pos (by rfl)]
      have nn := HFL.out
      go_simp
      exact hK.out _ _ (Below.refl _ _) rfl _ rfl
    case c_fin =>
      intro wq hbw
      try simp only [FinAll]
      simp only [Act.put, List.setIfInBounds_toArray, List.set_cons_zero, List.set_cons_succ]
      have KQ := Lib.hid (HB.out.2.trans (hbw.mono HB.out.2.size))
      clear hbw
      go_wp2
      exact HF2.out _ _ ⟨rfl, HN.out.on KQ.out, Kept.of KQ.out⟩
  · rw [if_neg hfull]
    have HFL : Hid (decide (s.limit ≤ (s.cnt : Int)) = false) := Lib.hid (by simpa using hfull)
    clear hfull
    have HF2 := Lib.hid (HF.out (s.last + 1) 0 (putS { s with twice := s.twice + 1 } m))
    generalize hQ : OpMade P n b gv (.int .i64 (s.last + 1)) 0 (putS { s with twice := s.twice + 1 } m) w = Q at *
    clear HF hQ
    have HPA := Lib.hid trivial
    have HPC := Lib.hid trivial
    have HFT := Lib.hid trivial
    go_enter Try.func15, Try.ntmps15
    go_upto_region 2 with (first | (refine wpList_mapv_ok rfl 72 (.tmp 12) (.tmp 13) rfl Try.underlying72 zeroMsg_run rfl HMM.out rfl HX.out HV.out.1 HV.out.2 ?_) | (refine wpList_store_msg rfl (.tmp 6) (.tmp 15) rfl w.heap.size zeroC.toArray cs rfl rfl HS.out rfl HLEN.out HC1.out ?_; intro w1 hB1 hk1))
    have HB : Hid (Blk w1 w.heap.size 39 cs.toArray ∧ Below w.heap.size w w1) := Lib.hid ⟨hB1, ((Kept.of ((Below.refl w.heap.size w).alloc (Nat.le_refl _) (.cells zeroC.toArray 39)) : Kept (fun b => b = w.heap.size) w _).trans hk1).below (Nat.le_refl _) fun k hk e => by omega⟩
    clear hB1 hk1 d2 HS
    go_wp2_with fail
    refine region_left [.is (.pointer (some ⟨n, 0, none⟩)), .is (.pointer (some ⟨n, 0, none⟩)), .is (.pointer (some ⟨n, 2, none⟩)), .is (.map (some b)), .is (.int .i64 (s.cnt : Int)), .is (.pointer (some ⟨n, 0, none⟩)), .is (.pointer (some ⟨n, 0, none⟩)), .is (.pointer (some ⟨n, 0, none⟩)), .is (.int .i64 s.limit), .is (.bool false)] (by kernel_rfl) rfl (by kernel_rfl) (by kernel_rfl) (.cons ?d_0 (.cons ?d_1 (.cons ?d_2 (.cons ?d_3 (.cons ?d_4 (.cons ?d_5 (.cons ?d_6 (.cons ?d_7 (.cons ?d_8 (.cons ?d_9 .nil)))))))))) ?d_fin
    case d_0 =>
      intro wq hbw st  K hK
      simp only [Act.put, List.setIfInBounds_toArray, List.set_cons_zero, List.set_cons_succ] at hK ⊢
      unfold opStep
      rw [if_pos (by rfl)]
      go_simp
      exact hK.out _ _ (Below.refl _ _) rfl _ rfl
    case d_1 =>
      intro wq hbw st  K hK
      simp only [Act.put, List.setIfInBounds_toArray, List.set_cons_zero, List.set_cons_succ] at hK ⊢
      unfold opStep
      rw [if_pos (by rfl)]
      go_simp
      exact hK.out _ _ (Below.refl _ _) rfl _ rfl
    case d_2 =>
      intro wq hbw st  K hK
      simp only [Act.put, List.setIfInBounds_toArray, List.set_cons_zero, List.set_cons_succ] at hK ⊢
      unfold opStep
      rw [if_pos (by rfl)]
      go_simp
      exact hK.out _ _ (Below.refl _ _) rfl _ rfl
    case d_3 =>
      intro wq hbw st  K hK
      simp only [Act.put, List.setIfInBounds_toArray, List.set_cons_zero, List.set_cons_succ] at hK ⊢
      unfold opStep
      rw [if_pos (by rfl)]
      have d0 : wq.cell? ⟨n, 2, none⟩ = some (.map (some b)) := (HN.out.on (HB.out.2.trans (hbw.mono HB.out.2.size))).box.cell 2
      go_simp
      exact hK.out _ _ (Below.refl _ _) rfl _ rfl
    case d_4 =>
      intro wq hbw st  K hK
      simp only [Act.put, List.setIfInBounds_toArray, List.set_cons_zero, List.set_cons_succ] at hK ⊢
      unfold opStep
      rw [if_pos (by rfl)]
      refine wp_mapv_len 72 (.tmp 22) (by rfl) Try.underlying72 (by rfl) (HMM.out.on (HB.out.2.trans (hbw.mono HB.out.2.size))) ?_
      exact hK.out _ _ (Below.refl _ _) rfl _ rfl
    case d_5 =>
      intro wq hbw st  K hK
      simp only [Act.put, List.setIfInBounds_toArray, List.set_cons_zero, List.set_cons_succ] at hK ⊢
      unfold opStep
      rw [if_pos (by rfl)]
      go_simp
      exact hK.out _ _ (Below.refl _ _) rfl _ rfl
    case d_6 =>
      intro wq hbw st  K hK
      simp only [Act.put, List.setIfInBounds_toArray, List.set_cons_zero, List.set_cons_succ] at hK ⊢
      unfold opStep
      rw [if_pos (by rfl)]
      go_simp
      exact hK.out _ _ (Below.refl _ _) rfl _ rfl
    case d_7 =>
      intro wq hbw st  K hK
      simp only [Act.put, List.setIfInBounds_toArray, List.set_cons_zero, List.set_cons_succ] at hK ⊢
      unfold opStep
      rw [if_pos (by rfl)]
      go_simp
      exact hK.out _ _ (Below.refl _ _) rfl _ rfl
    case d_8 =>
      intro wq hbw st  K hK
      simp only [Act.put, List.setIfInBounds_toArray, List.set_cons_zero, List.set_cons_succ] at hK ⊢
      unfold opStep
      rw [if_pos (by rfl)]
      have d0 : wq.cell? ⟨n, 0, none⟩ = some (.int .i64 s.limit) := (HN.out.on (HB.out.2.trans (hbw.mono HB.out.2.size))).box.cell 0
      go_simp
      exact hK.out _ _ (Below.refl _ _) rfl _ rfl
    case d_9 =>
      intro wq hbw st  K hK
      simp only [Act.put, List.setIfInBounds_toArray, List.set_cons_zero, List.set_cons_succ] at hK ⊢
      unfold opStep
      rw [if_pos (by rfl)]
      have nn := HFL.out
      go_simp
      exact hK.out _ _ (Below.refl _ _) rfl _ rfl
    case d_fin =>
      intro wq hbw
      try simp only [FinAll]
      simp only [Act.put, List.setIfInBounds_toArray, List.set_cons_zero, List.set_cons_succ]
      have KQ := Lib.hid (HB.out.2.trans (hbw.mono HB.out.2.size))
      have HBX := Lib.hid (HB.out.1.on hbw)
      clear hbw HB HMM HPA HPC HFT HFL
      have HNQ := Lib.hid (HN.out.on KQ.out)
      have d4 : wq.cell? ⟨n, 5, none⟩ = some (.int .i64 s.twice) := HNQ.out.box.cell 5
      have f4 : wq.frozen? ⟨n, 5, none⟩ = false := HNQ.out.box.frozen 5
      have z4 : n < wq.heap.size := HNQ.out.box.lt
      go_upto_region 7 with fail
      have H3 : Hid (NetAt P n b gv { s with twice := s.twice + 1 } (World.setCell wq ⟨n, 5, none⟩ (.int .i64 (s.twice + 1))) ∧ Blk (World.setCell wq ⟨n, 5, none⟩ (.int .i64 (s.twice + 1))) w.heap.size 39 cs.toArray ∧ Kept (fun k => k = n) w (World.setCell wq ⟨n, 5, none⟩ (.int .i64 (s.twice + 1)))) := Lib.hid ⟨HNQ.out.set (s' := { s with twice := s.twice + 1 }) 5 (.int .i64 (s.twice + 1)) rfl rfl rfl rfl, HBX.out.far (p := ⟨n, 5, none⟩) (by have := HN.out.box.lt; show w.heap.size ≠ n; omega) _, (Kept.of KQ.out).trans (Kept.set (S := fun k => k = n) (p := ⟨n, 5, none⟩) _ rfl)⟩
      generalize hw3 : World.setCell wq _ _ = w3 at H3 ⊢
      clear hw3 d4 f4 z4 HBX KQ HNQ
      have HM3 : Hid (CellsD (fun k => k ≠ n ∧ k ≠ b) w3 cs (msgD m)) := Lib.hid ⟨HM.out.1, fun i u d e1 e2 => (HM.out.2 i u d e1 e2).kept H3.out.2.2 fun k hk => hk.1⟩
      have HCL := Lib.hid (put_any n b gv { s with twice := s.twice + 1 } m cs w3 H3.out.1 HM3.out (fun k hk => HP.out k (Nat.le_trans H3.out.2.2.size hk)) HL.out.1 HL.out.2 HC.out HNO.out)
      go_wp2_with (refine wpList_load_msg rfl (.tmp 6) rfl w.heap.size cs rfl H3.out.2.1 HLEN.out ?_)
      refine HCL.out.mono ?_
      rintro e w4 ⟨rfl, hn4, hk4⟩
      have H4 := Lib.hid (And.intro hn4 ((H3.out.2.2.mono (S' := fun k => k = n ∨ k = b) fun k _ h => .inl h).trans hk4))
      clear hn4 hk4 HCL
      go_wp2_with fail
      exact HF2.out _ _ ⟨rfl, H4.out.1, H4.out.2⟩
end
end Go.Proofs.Ytmcdmcnbnnfhnaa
