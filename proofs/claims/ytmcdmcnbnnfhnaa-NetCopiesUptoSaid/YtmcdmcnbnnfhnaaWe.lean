/-
  Chapter 28: Drop, Heal, and the law's same.
-/
import Derived.Test.YtmcdmcnbnnfhnaaWf
namespace Go.Proofs.Ytmcdmcnbnnfhnaa
open Go.RowKit

def DropMade (P : Nat → Prop) (n b : Nat) (gv : Value) (r : Int) (s' : NetS) (w : World) (e : Ending) (w' : World) : Prop := e = .returned (.int .i64 r) ∧ NetAt P n b gv s' w' ∧ Kept (fun k => k = n ∨ k = b) w w'
def HealMade (P : Nat → Prop) (n b : Nat) (s' : NetS) (w : World) (e : Ending) (w' : World) : Prop := e = .returned (.tuple #[]) ∧ NetAt P n b (.map none) s' w' ∧ Kept (fun k => k = n) w w'
section
variable {P : Nat → Prop} {n b : Nat} {gv : Value} {s : NetS} {w : World}
set_option maxRecDepth 100000
set_option maxHeartbeats 8000000
theorem heal_any (h : NetAt P n b gv s w) : Calls Try.prog 19 #[.pointer (some ⟨n, 0, none⟩)] w (HealMade P n b { s with grp := none } w) := by
  have HF : Hid (∀ e w', e = .returned (.tuple #[]) ∧ NetAt P n b (.map none) { s with grp := none } w' ∧ Kept (fun k => k = n) w w' → HealMade P n b { s with grp := none } w e w') := Lib.hid fun _ _ h => h
  have d3 : w.cell? ⟨n, 3, none⟩ = some gv := h.box.cell 3
  have f3 : w.frozen? ⟨n, 3, none⟩ = false := h.box.frozen 3
  have z3 : n < w.heap.size := h.box.lt
  have HN2 : Hid (NetAt P n b (.map none) { s with grp := none } (w.setCell ⟨n, 3, none⟩ (.map none))) := Lib.hid (h.setG (.inl ⟨rfl, rfl⟩))
  have HK2 : Hid (Kept (fun k => k = n) w (w.setCell ⟨n, 3, none⟩ (.map none))) := Lib.hid (Kept.set (S := fun k => k = n) (p := ⟨n, 3, none⟩) _ rfl)
  clear h
  generalize hQ : HealMade P n b { s with grp := none } w = Q at *
  clear hQ
  go_enter Try.func19, Try.ntmps19
  go_wp2
  go_end0
  exact HF.out _ _ ⟨rfl, HN2.out, HK2.out⟩
theorem drop_any (x : Int) (hx : I64 x) (h : NetAt P n b gv s w) (ht : 0 ≤ s.gone) (ht2 : s.gone < 4611686018427387904) :
    Calls Try.prog 17 #[.pointer (some ⟨n, 0, none⟩), .int .i64 x] w (DropMade P n b gv (dropR s x).1 (dropR s x).2 w) := by
  have HF : Hid (∀ r s' e w', e = .returned (.int .i64 r) ∧ NetAt P n b gv s' w' ∧ Kept (fun k => k = n ∨ k = b) w w' → DropMade P n b gv r s' w e w') := Lib.hid fun _ _ _ _ h => h
  have HN : Hid (NetAt P n b gv s w) := Lib.hid h
  have HX := Lib.hid hx
  obtain ⟨M, hM, hM2⟩ := h.way
  have HMM := Lib.hid hM
  have HNE : Hid (n < w.heap.size ∧ b < w.heap.size) := Lib.hid ⟨h.box.lt, h.blt⟩
  have d2 : w.cell? ⟨n, 2, none⟩ = some (.map (some b)) := h.box.cell 2
  have HS : Hid (Blk (w.alloc (.cells zeroC.toArray 39)) w.heap.size 39 zeroC.toArray) := Lib.hid (Blk.new w _ _)
  clear h hx
  unfold dropR
  cases hms : s.ms x with
  | none =>
    have HV : Hid ((M x).getD (.agg zeroC.toArray) = .agg zeroC.toArray ∧ (M x).isSome = false) := Lib.hid (by rw [(hM2 x HX.out).1 hms]; exact ⟨rfl, rfl⟩)
    have HZL : Hid (zeroC.length = 15) := Lib.hid rfl
    have HZ1 : Hid (zeroC.toArray.all (·.oneCell') = true) := Lib.hid (CellsD.all (zero_cells (fun _ => True) w))
    clear hM hM2 hms
    have HF2 := Lib.hid (HF.out 14 s)
    simp only
    generalize hQ : DropMade P n b gv 14 s w = Q at *
    clear HF hQ
    go_enter Try.func17, Try.ntmps17
    go_upto_region 2 with (first | (refine wpList_mapv_ok rfl 72 (.tmp 11) (.tmp 12) rfl Try.underlying72 zeroMsg_run rfl HMM.out rfl HX.out HV.out.1 HV.out.2 ?_) | (refine wpList_store_msg rfl (.tmp 5) (.tmp 14) rfl w.heap.size zeroC.toArray zeroC rfl rfl HS.out rfl HZL.out HZ1.out ?_; intro w1 hB1 hk1))
    have HB : Hid (Below w.heap.size w w1) := Lib.hid (((Kept.of ((Below.refl w.heap.size w).alloc (Nat.le_refl _) (.cells zeroC.toArray 39)) : Kept (fun b => b = w.heap.size) w _).trans hk1).below (Nat.le_refl _) fun k hk e => by omega)
    clear hB1 hk1 d2 HS
    go_wp2_with fail
    exact HF2.out _ _ ⟨rfl, HN.out.on HB.out, Kept.of HB.out⟩
  | some m =>
  obtain ⟨cs, hc1, hc2⟩ := (hM2 x HX.out).2 m hms
  have HV : Hid ((M x).getD (.agg zeroC.toArray) = .agg cs.toArray ∧ (M x).isSome = true) := Lib.hid (by rw [hc1]; exact ⟨rfl, rfl⟩)
  have HLEN := Lib.hid (msg_len hc2)
  have HC1 := Lib.hid (CellsD.all hc2)
  clear hM hM2 hms hc1 hc2
  simp only
  have HF2 := Lib.hid (HF.out 0 { s with cnt := s.cnt - 1, ms := updM s.ms x none, gone := s.gone + 1 })
  generalize hQ : DropMade P n b gv 0 { s with cnt := s.cnt - 1, ms := updM s.ms x none, gone := s.gone + 1 } w = Q at *
  clear HF hQ
  go_enter Try.func17, Try.ntmps17
  go_upto_region 2 with (first | (refine wpList_mapv_ok rfl 72 (.tmp 11) (.tmp 12) rfl Try.underlying72 zeroMsg_run rfl HMM.out rfl HX.out HV.out.1 HV.out.2 ?_) | (refine wpList_store_msg rfl (.tmp 5) (.tmp 14) rfl w.heap.size zeroC.toArray cs rfl rfl HS.out rfl HLEN.out HC1.out ?_; intro w1 hB1 hk1))
  have HB : Hid (Below w.heap.size w w1) := Lib.hid (((Kept.of ((Below.refl w.heap.size w).alloc (Nat.le_refl _) (.cells zeroC.toArray 39)) : Kept (fun b => b = w.heap.size) w _).trans hk1).below (Nat.le_refl _) fun k hk e => by omega)
  clear hB1 hk1 d2 HS
  have HNQ := Lib.hid (HN.out.on HB.out)
  obtain ⟨M', hM, hM2⟩ := HNQ.out.way
  have HM2 := Lib.hid hM2
  have HM1 := Lib.hid hM
  have HMS : Hid ((M' x).isSome = true) := Lib.hid (by
    have h1 := (HMM.out.on HB.out)
    obtain ⟨D, g1, g2, g3⟩ := h1
    obtain ⟨D', g1', g2', g3'⟩ := hM
    obtain ⟨es, clock, a1, a2, a3, a4⟩ := g1
    obtain ⟨es', clock', a1', a2', a3', a4'⟩ := g1'
    rw [a1] at a1'
    injection a1' with a1'
    injection a1' with a5 a6
    subst a5
    rw [← (g3' x HX.out).1, a4', ← a4, (g3 x HX.out).1, HV.out.2])
  clear hM hM2 HMM HV
  have d2 : w1.cell? ⟨n, 2, none⟩ = some (.map (some b)) := HNQ.out.box.cell 2
  go_upto_region 5 with ((refine wpList_mapv_del rfl 72 (.tmp 21) (.tmp 22) rfl Try.underlying72 rfl HM1.out rfl HX.out ?_; intro w5 hw5 hk5))
  rw [HMS.out, if_pos rfl] at hw5
  have HN5 := Lib.hid (HNQ.out.delm hk5 HM2.out hw5)
  have HK5 : Hid (Kept (fun k => k = n ∨ k = b) w w5) := Lib.hid ((Kept.of HB.out).trans (hk5.mono fun k _ h => .inr h))
  clear hw5 hk5 d2 HM1 HM2 HNQ
  have d7 : w5.cell? ⟨n, 7, none⟩ = some (.int .i64 s.gone) := HN5.out.box.cell 7
  have f7 : w5.frozen? ⟨n, 7, none⟩ = false := HN5.out.box.frozen 7
  have z7 : n < w5.heap.size := HN5.out.box.lt
  go_upto_region 6 with fail
  have H6 : Hid (NetAt P n b gv { s with cnt := s.cnt - 1, ms := updM s.ms x none, gone := s.gone + 1 } (World.setCell w5 ⟨n, 7, none⟩ (.int .i64 (s.gone + 1))) ∧ Kept (fun k => k = n ∨ k = b) w (World.setCell w5 ⟨n, 7, none⟩ (.int .i64 (s.gone + 1)))) := Lib.hid ⟨HN5.out.set (s' := { s with cnt := s.cnt - 1, ms := updM s.ms x none, gone := s.gone + 1 }) 7 (.int .i64 (s.gone + 1)) rfl rfl rfl rfl, HK5.out.trans (Kept.set (S := fun k => k = n ∨ k = b) (p := ⟨n, 7, none⟩) _ (.inl rfl))⟩
  generalize hw6 : World.setCell w5 _ _ = w6 at H6 ⊢
  clear hw6 d7 f7 z7
  go_wp2_with fail
  exact HF2.out _ _ ⟨rfl, H6.out.1, H6.out.2⟩
  end
set_option maxRecDepth 100000 in
set_option maxHeartbeats 8000000 in
theorem same_ints (u v : Value) (xs : List Int) (w : World) (hu : Reads vi w u xs) (hv : Reads vi w v xs) (hx : xs.length ≤ 1000000000) : Calls Try.prog 21 #[u, v] w (BoolMade w true) := by
  have HU := Lib.hid hu
  have HV := Lib.hid hv
  obtain ⟨ao, cap, rfl, -, hm, -, -⟩ := hu
  obtain ⟨bo, cbp, rfl, -, hm2, -, -⟩ := hv
  unfold maxLen at hm hm2
  have HF : Hid (∀ e w', e = .returned (.bool true) ∧ Below w.heap.size w w' → BoolMade w true e w') := Lib.hid fun _ _ h => h
  generalize hQ : BoolMade w true = Q at *
  clear hQ
  go_enter Try.func21, Try.ntmps21
  go_wp2
  go_loopg [5] xs.length (fun mm i wr => ∃ k : Nat, mm + k = xs.length ∧ i = .int .i64 k ∧ Below w.heap.size w wr)
  case atStart => exact ⟨0, by omega, rfl, Below.refl _ _⟩
  case round =>
    rename World => wr
    obtain ⟨k, hmk, rfl, hbel⟩ := hrel
    have HM := Lib.hid hmk
    have HB := Lib.hid hbel
    have hk0 : (0 : Int) ≤ (k : Int) := by omega
    have hk1 : k ≤ xs.length := by omega
    clear hmk hbel
    by_cases hlt : k < xs.length
    · have hki : (k : Int) < xs.length := by omega
      obtain ⟨b1, o1, c1, hv1, hb1, hcell1⟩ := int_at HU.out hlt
      injection hv1 with e1 e2 e3
      subst e1
      clear e2 e3
      obtain ⟨b2, o2, c2, hv2, hb2, hcell2⟩ := int_at HV.out hlt
      injection hv2 with e1 e2 e3
      subst e1
      clear e2 e3
      have HC := Lib.hid (fun (wq : World) (hq : Below w.heap.size w wq) => And.intro ((hq.cell (p := ⟨b1, o1 + k, none⟩) hb1).trans hcell1) ((hq.cell (p := ⟨b2, o2 + k, none⟩) hb2).trans hcell2))
      have HLT := Lib.hid hlt
      generalize xs[k] = x at *
      clear hcell1 hcell2 hb1 hb2 hlt
      go_wp2_with fail
      refine region_left [.is (.slice (some ⟨b1, o1, none⟩) xs.length cap), .is (.int .i64 (k : Int)), .is (.pointer (some ⟨b1, o1 + k, none⟩)), .is (.int .i64 x), .is (.slice (some ⟨b2, o2, none⟩) xs.length cbp), .is (.int .i64 (k : Int)), .is (.pointer (some ⟨b2, o2 + k, none⟩)), .is (.int .i64 x), .is (.bool false)] (by kernel_rfl) rfl (by kernel_rfl) (by kernel_rfl) (.cons ?c_0 (.cons ?c_1 (.cons ?c_2 (.cons ?c_3 (.cons ?c_4 (.cons ?c_5 (.cons ?c_6 (.cons ?c_7 (.cons ?c_8 .nil))))))))) ?c_fin
      case c_0 =>
        intro wq hbw st  K hK
        simp only [Act.put, List.setIfInBounds_toArray, List.set_cons_zero, List.set_cons_succ] at hK ⊢
        unfold opStep
        rw [if_pos (by rfl)]
        go_simp
        exact hK.out _ _ (Below.refl _ _) rfl _ rfl
      case c_1 =>
        intro wq hbw st  K hK
        simp only [Act.put, List.setIfInBounds_toArray, List.set_cons_zero, List.set_cons_succ] at hK ⊢
        unfold opStep
        rw [if_pos (by rfl)]
        go_simp
        exact hK.out _ _ (Below.refl _ _) rfl _ rfl
      case c_2 =>
        intro wq hbw st  K hK
        simp only [Act.put, List.setIfInBounds_toArray, List.set_cons_zero, List.set_cons_succ] at hK ⊢
        unfold opStep
        rw [if_pos (by rfl)]
        go_simp
        exact hK.out _ _ (Below.refl _ _) rfl _ rfl
      case c_3 =>
        intro wq hbw st  K hK
        simp only [Act.put, List.setIfInBounds_toArray, List.set_cons_zero, List.set_cons_succ] at hK ⊢
        unfold opStep
        rw [if_pos (by rfl)]
        have d0 := (HC.out wq (HB.out.trans (hbw.mono HB.out.size))).1
        unfold vi at d0
        go_simp
        exact hK.out _ _ (Below.refl _ _) rfl _ rfl
      case c_4 =>
        intro wq hbw st  K hK
        simp only [Act.put, List.setIfInBounds_toArray, List.set_cons_zero, List.set_cons_succ] at hK ⊢
        unfold opStep
        rw [if_pos (by rfl)]
        go_simp
        exact hK.out _ _ (Below.refl _ _) rfl _ rfl
      case c_5 =>
        intro wq hbw st  K hK
        simp only [Act.put, List.setIfInBounds_toArray, List.set_cons_zero, List.set_cons_succ] at hK ⊢
        unfold opStep
        rw [if_pos (by rfl)]
        go_simp
        exact hK.out _ _ (Below.refl _ _) rfl _ rfl
      case c_6 =>
        intro wq hbw st  K hK
        simp only [Act.put, List.setIfInBounds_toArray, List.set_cons_zero, List.set_cons_succ] at hK ⊢
        unfold opStep
        rw [if_pos (by rfl)]
        go_simp
        exact hK.out _ _ (Below.refl _ _) rfl _ rfl
      case c_7 =>
        intro wq hbw st  K hK
        simp only [Act.put, List.setIfInBounds_toArray, List.set_cons_zero, List.set_cons_succ] at hK ⊢
        unfold opStep
        rw [if_pos (by rfl)]
        have d0 := (HC.out wq (HB.out.trans (hbw.mono HB.out.size))).2
        unfold vi at d0
        go_simp
        exact hK.out _ _ (Below.refl _ _) rfl _ rfl
      case c_8 =>
        intro wq hbw st  K hK
        simp only [Act.put, List.setIfInBounds_toArray, List.set_cons_zero, List.set_cons_succ] at hK ⊢
        unfold opStep
        rw [if_pos (by rfl)]
        have nn : (x != x) = false := by simp
        go_simp
        exact hK.out _ _ (Below.refl _ _) rfl _ rfl
      case c_fin =>
        intro wq hbw
        try simp only [FinAll]
        simp only [Act.put, List.setIfInBounds_toArray, List.set_cons_zero, List.set_cons_succ]
        have HB2 := Lib.hid (HB.out.trans (hbw.mono HB.out.size))
        clear hbw
        go_wp2
        go_roundg (xs.length - (k + 1))
        case measure => have := HM.out; have := HLT.out; omega
        case rel => exact ⟨k + 1, by have := HLT.out; omega, by go_num, HB2.out⟩
    · have hki : ¬ (k : Int) < xs.length := by omega
      go_wp2
      exact HF.out _ _ ⟨rfl, HB.out⟩
end Go.Proofs.Ytmcdmcnbnnfhnaa
