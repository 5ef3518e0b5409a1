/-
  Chapter 54: a copy of an operation.
-/
import Derived.Test.YtgaolgfjbgflgaaHc
import Derived.Test.YtgaolgfjbgflgaaRt
namespace Go.Proofs.Ytgaolgfjbgflgaa
open Go.RowKit

theorem results_cell {P : Program} {fn : Func} {a : Tmp} {t : TypeId} {tmps : Array Value} {b o : Nat} {v : Value} {w : World} (h : fn.results = #[.cell a t]) (ha : tmps.getD a undef = .pointer (some ⟨b, o, none⟩)) (hl : (loadVar t ⟨b, o, none⟩).run P w = .ok v w) :
    (results fn tmps).run P w = .ok v w := by
  rw [Array.getD_eq_getD_getElem?] at ha
  simp [results, h, ha, asAddr, hl]
def OwnS (w : World) (xs : List Str) (e : Ending) (w' : World) : Prop := ∃ v', e = .returned v' ∧ w'.ownsRow w.heap.size 9 1 v' xs.length (xs.map vs) ∧ Below w.heap.size w w'
theorem sclone_any (v : Value) (xs : List Str) (w : World) (hr : Reads vs w v xs) (hb : xs.length ≤ 1000000) : Calls Try.prog 65 #[v] w (OwnS w xs) := by
  rcases hr.cases with ⟨rfl, ao, cap, rfl, hm, hn⟩ | ⟨h0, b, off, cap, rfl, hl, hm, hlt, hc⟩
  · cases ao with
    | none =>
      refine (Try.slices_Clone_string_nil _ _ _).mono ?_
      rintro e w1 ⟨rfl, rfl⟩
      exact ⟨_, rfl, World.ownsRow_nil _ _ _ _, Below.refl _ _⟩
    | some a =>
      refine (Try.slices_Clone_string_zero a cap w).mono ?_
      rintro e w1 ⟨v', rfl, h1, _, h2⟩
      exact ⟨_, rfl, h1, h2⟩
  · have hz : (xs.map toB).length = xs.length := by simp
    have hcl := Try.slices_Clone_string b off xs.length cap (xs.map toB) w (by omega) (by omega) (fun j hj => by rw [getD_map_toB xs j (by omega)]; exact hc j (by omega))
    rw [List.take_of_length_le (by omega), map_toB_string] at hcl
    refine hcl.mono ?_
    rintro e w1 ⟨v', rfl, h1, _, h2⟩
    exact ⟨_, rfl, h1, h2⟩
theorem ownsRow_base {w : World} {b b' : Nat} {e : TypeId} {s n : Nat} {v : Value} {xs : List Value} (h : w.ownsRow b e s v n xs) (hb : b' ≤ b) : w.ownsRow b' e s v n xs := by
  refine ⟨h.1, ?_⟩
  rcases h.2 with hn | ⟨g, cap, cur, hv, hbb, rest⟩
  · exact .inl hn
  · exact .inr ⟨g, cap, cur, hv, Nat.le_trans hb hbb, rest⟩
def leftS (N : Nat) (xs : List Str) : Left := .has (fun x w => w.ownsRow N 9 1 x xs.length (xs.map vs)) (fun _ _ _ hb h => below_row h hb)
theorem row_slc {w : World} {b s n : Nat} {t : TypeId} {v : Value} {xs : List Value} (h : w.ownsRow b t s v n xs) : ∃ a c, v = .slice a n c := by
  rcases h.2 with ⟨h1, h0⟩ | ⟨_, _, _, h1, _⟩
  · subst h0; exact ⟨_, _, h1⟩
  · exact ⟨_, _, h1⟩
theorem row_ne {w : World} {b s n g : Nat} {t : TypeId} {v : Value} {xs : List Value} (h : w.ownsRow b t s v n xs) (hg : g < b) : v.ownBlock = none ∨ v.ownBlock ≠ some g := by
  cases e : v.ownBlock with
  | none => exact .inl rfl
  | some k => exact .inr (fun h' => by have := (h.lt k e).1; injection h' with h'; omega)
theorem row_blk {w w' : World} {base s n : Nat} {e : TypeId} {v : Value} {xs : List Value} (h : w.ownsRow base e s v n xs) (hk : ∀ g cur, base ≤ g → Blk w g e cur → Blk w' g e cur) : w'.ownsRow base e s v n xs := by
  refine ⟨h.1, ?_⟩
  rcases h.2 with hn | ⟨g, cap, cur, hv, hb, hg, rest⟩
  · exact .inl hn
  · exact .inr ⟨g, cap, cur, hv, hb, hk g cur hb hg, rest⟩
/-- An operation by value, its lists in rows of the call's own. -/
def OpRow (w : World) (v : Value) (o : Opn) : Prop := ∃ va vz, v = opV o va vz ∧ w.ownsRow 0 9 1 va (addO o).length ((addO o).map vs) ∧ w.ownsRow 0 9 1 vz (seeO o).length ((seeO o).map vs)
theorem OpRow.at_ {w : World} {v : Value} {o : Opn} (h : OpRow w v o) : OpAt w v o := by
  obtain ⟨va, vz, h1, h2, h3⟩ := h
  exact ⟨va, vz, h1, Reads.of_owns h2, Reads.of_owns h3⟩
def CloneMade (w : World) (o : Opn) (e : Ending) (w' : World) : Prop := ∃ v, e = .returned v ∧ OpRow w' v o ∧ Below w.heap.size w w'

set_option maxRecDepth 100000 in
set_option maxHeartbeats 4000000 in
theorem clone_any (v : Value) (o : Opn) (W : World) (ho : OpAt W v o) (h1 : (addO o).length ≤ 1000) (h2 : (seeO o).length ≤ 1000) : Calls Try.prog 42 #[v] W (CloneMade W o) := by
  obtain ⟨va, vz, rfl, r1, r2⟩ := ho
  have HR := Lib.hid (And.intro r1 r2)
  obtain ⟨x1, cx1, rfl, -, hm1, -, -⟩ := r1
  obtain ⟨x2, cx2, rfl, -, hm2, -, -⟩ := r2
  unfold opV
  unfold maxLen at hm1 hm2
  have HO : Hid (∀ (w : World) (va vz : Value), w.ownsRow 0 9 1 va (addO o).length ((addO o).map vs) → w.ownsRow 0 9 1 vz (seeO o).length ((seeO o).map vs) → OpRow w (.agg #[.int .i64 (cliO o), .int .i64 (kindO o), .int .i64 (begO o), .int .i64 (endO o), va, vz]) o) := Lib.hid fun w va vz h1 h2 => ⟨va, vz, rfl, h1, h2⟩
  generalize cliO o = a0 at *
  generalize kindO o = a1 at *
  generalize begO o = a2 at *
  generalize endO o = a3 at *
  generalize addO o = la at *
  generalize seeO o = ls at *
  go_enter Try.func42, Try.ntmps42
  go_upto_region 1 with fail
  have HK0 : Hid (Blk ((W.alloc (.cells #[.int .i64 a0, .int .i64 a1, .int .i64 a2, .int .i64 a3, .slice x1 la.length cx1, .slice x2 ls.length cx2] 37)).alloc (.cells #[.int .i64 0, .int .i64 0, .int .i64 0, .int .i64 0, .slice none 0 0, .slice none 0 0] 37)) W.heap.size 37 #[.int .i64 a0, .int .i64 a1, .int .i64 a2, .int .i64 a3, .slice x1 la.length cx1, .slice x2 ls.length cx2]) := Lib.hid ((Blk.new _ _ _).alloc _)
  have HK1 : Hid (Blk ((W.alloc (.cells #[.int .i64 a0, .int .i64 a1, .int .i64 a2, .int .i64 a3, .slice x1 la.length cx1, .slice x2 ls.length cx2] 37)).alloc (.cells #[.int .i64 0, .int .i64 0, .int .i64 0, .int .i64 0, .slice none 0 0, .slice none 0 0] 37)) (W.heap.size + 1) 37 #[.int .i64 0, .int .i64 0, .int .i64 0, .int .i64 0, .slice none 0 0, .slice none 0 0]) := Lib.hid (by have h := Blk.new (W.alloc (.cells #[.int .i64 a0, .int .i64 a1, .int .i64 a2, .int .i64 a3, .slice x1 la.length cx1, .slice x2 ls.length cx2] 37)) 37 #[.int .i64 0, .int .i64 0, .int .i64 0, .int .i64 0, .slice none 0 0, .slice none 0 0]; rwa [World.size_alloc] at h)
  have HKW := Lib.hid (below_two W (.cells #[.int .i64 a0, .int .i64 a1, .int .i64 a2, .int .i64 a3, .slice x1 la.length cx1, .slice x2 ls.length cx2] 37) (.cells #[.int .i64 0, .int .i64 0, .int .i64 0, .int .i64 0, .slice none 0 0, .slice none 0 0] 37))
  generalize hw1 : World.alloc (World.alloc W _) _ = w1 at HK0 HK1 HKW ⊢
  clear hw1
  have hgr := HK1.out.lt
  refine region_tail [.is (.pointer (some ⟨W.heap.size, 4, none⟩)), .is (.slice x1 la.length cx1), leftS w1.heap.size la, .is (.pointer (some ⟨W.heap.size, 5, none⟩)), .is (.slice x2 ls.length cx2), leftS w1.heap.size ls, .is (.pointer (some ⟨W.heap.size, 4, none⟩)), .is undef, .is undef, .is undef] 7 (by kernel_rfl) rfl (by kernel_rfl) (by kernel_rfl) (by kernel_rfl) (by kernel_rfl) rfl (.cons ?q0 (.cons ?q1 (.cons ?q2 (.cons ?q3 (.cons ?q4 (.cons ?q5 (.cons ?q6 .nil))))))) ?qfin
  case q0 =>
    intro wq hbw st  K hK
    have KQ := HKW.out.trans (hbw.mono HKW.out.size)
    have dd := Lib.hid (blk6 (HK0.out.on hbw))
    have d0 := dd.out.1
    have d1 := dd.out.2.1
    have d2 := dd.out.2.2.1
    have d3 := dd.out.2.2.2.1
    have d4 := dd.out.2.2.2.2.1
    have d5 := dd.out.2.2.2.2.2.1
    have dlt := dd.out.2.2.2.2.2.2
    simp only [Act.put, List.setIfInBounds_toArray, List.set_cons_zero, List.set_cons_succ] at hK ⊢
    unfold opStep
    rw [if_pos (by rfl)]
    go_simp
    exact hK.out _ _ (Below.refl _ _) rfl _ rfl
  case q1 =>
    intro wq hbw st  K hK
    have KQ := HKW.out.trans (hbw.mono HKW.out.size)
    have dd := Lib.hid (blk6 (HK0.out.on hbw))
    have d0 := dd.out.1
    have d1 := dd.out.2.1
    have d2 := dd.out.2.2.1
    have d3 := dd.out.2.2.2.1
    have d4 := dd.out.2.2.2.2.1
    have d5 := dd.out.2.2.2.2.2.1
    have dlt := dd.out.2.2.2.2.2.2
    simp only [Act.put, List.setIfInBounds_toArray, List.set_cons_zero, List.set_cons_succ] at hK ⊢
    unfold opStep
    rw [if_pos (by rfl)]
    go_simp
    exact hK.out _ _ (Below.refl _ _) rfl _ rfl
  case q2 =>
    intro wq hbw st  K hK
    have KQ := HKW.out.trans (hbw.mono HKW.out.size)
    have dd := Lib.hid (blk6 (HK0.out.on hbw))
    have d0 := dd.out.1
    have d1 := dd.out.2.1
    have d2 := dd.out.2.2.1
    have d3 := dd.out.2.2.2.1
    have d4 := dd.out.2.2.2.2.1
    have d5 := dd.out.2.2.2.2.2.1
    have dlt := dd.out.2.2.2.2.2.2
    simp only [Act.put, List.setIfInBounds_toArray, List.set_cons_zero, List.set_cons_succ] at hK ⊢
    unfold opStep
    rw [if_pos (by rfl)]
    go_simp
    refine (sclone_any _ la _ (HR.out.1.keep KQ) (by omega)).mono ?_
    rintro e wz ⟨v, rfl, hr, hbz⟩
    go_simp
    exact hK.out _ _ hbz (ownsRow_base hr hbw.size) _ rfl
  case q3 =>
    intro wq hbw st  K hK
    have KQ := HKW.out.trans (hbw.mono HKW.out.size)
    have dd := Lib.hid (blk6 (HK0.out.on hbw))
    have d0 := dd.out.1
    have d1 := dd.out.2.1
    have d2 := dd.out.2.2.1
    have d3 := dd.out.2.2.2.1
    have d4 := dd.out.2.2.2.2.1
    have d5 := dd.out.2.2.2.2.2.1
    have dlt := dd.out.2.2.2.2.2.2
    simp only [Act.put, List.setIfInBounds_toArray, List.set_cons_zero, List.set_cons_succ] at hK ⊢
    unfold opStep
    rw [if_pos (by rfl)]
    go_simp
    exact hK.out _ _ (Below.refl _ _) rfl _ rfl
  case q4 =>
    intro wq hbw st  K hK
    have KQ := HKW.out.trans (hbw.mono HKW.out.size)
    have dd := Lib.hid (blk6 (HK0.out.on hbw))
    have d0 := dd.out.1
    have d1 := dd.out.2.1
    have d2 := dd.out.2.2.1
    have d3 := dd.out.2.2.2.1
    have d4 := dd.out.2.2.2.2.1
    have d5 := dd.out.2.2.2.2.2.1
    have dlt := dd.out.2.2.2.2.2.2
    simp only [Act.put, List.setIfInBounds_toArray, List.set_cons_zero, List.set_cons_succ] at hK ⊢
    unfold opStep
    rw [if_pos (by rfl)]
    go_simp
    exact hK.out _ _ (Below.refl _ _) rfl _ rfl
  case q5 =>
    intro wq hbw st x2 h2 K hK
    have KQ := HKW.out.trans (hbw.mono HKW.out.size)
    have dd := Lib.hid (blk6 (HK0.out.on hbw))
    have d0 := dd.out.1
    have d1 := dd.out.2.1
    have d2 := dd.out.2.2.1
    have d3 := dd.out.2.2.2.1
    have d4 := dd.out.2.2.2.2.1
    have d5 := dd.out.2.2.2.2.2.1
    have dlt := dd.out.2.2.2.2.2.2
    simp only [Act.put, List.setIfInBounds_toArray, List.set_cons_zero, List.set_cons_succ] at hK ⊢
    unfold opStep
    rw [if_pos (by rfl)]
    go_simp
    refine (sclone_any _ ls _ (HR.out.2.keep KQ) (by omega)).mono ?_
    rintro e wz ⟨v, rfl, hr, hbz⟩
    go_simp
    exact hK.out _ _ hbz (ownsRow_base hr hbw.size) _ rfl
  case q6 =>
    intro wq hbw st x2 h2 K hK
    have KQ := HKW.out.trans (hbw.mono HKW.out.size)
    have dd := Lib.hid (blk6 (HK0.out.on hbw))
    have d0 := dd.out.1
    have d1 := dd.out.2.1
    have d2 := dd.out.2.2.1
    have d3 := dd.out.2.2.2.1
    have d4 := dd.out.2.2.2.2.1
    have d5 := dd.out.2.2.2.2.2.1
    have dlt := dd.out.2.2.2.2.2.2
    simp only [Act.put, List.setIfInBounds_toArray, List.set_cons_zero, List.set_cons_succ] at hK ⊢
    unfold opStep
    rw [if_pos (by rfl)]
    go_simp
    exact hK.out _ _ (Below.refl _ _) rfl _ rfl
  case qfin =>
    intro wq hbw
    intro x2_ h2_ x5_ h5_
    try simp only [FinAll]
    simp only [List.drop_succ_cons, List.drop_zero]
    simp only [Act.put, List.setIfInBounds_toArray, List.set_cons_zero, List.set_cons_succ]
    have h2' : wq.ownsRow w1.heap.size 9 1 x2_ la.length (la.map vs) := h2_
    have h5' : wq.ownsRow w1.heap.size 9 1 x5_ ls.length (ls.map vs) := h5_
    obtain ⟨a4, c4, rfl⟩ := row_slc h2'
    obtain ⟨a5, c5, rfl⟩ := row_slc h5'
    have HX := Lib.hid (And.intro h2' h5')
    have KQ := Lib.hid (HKW.out.trans (hbw.mono HKW.out.size))
    have HB0 := Lib.hid (HK0.out.on hbw)
    have HB1 := Lib.hid (HK1.out.on hbw)
    have hsz := hbw.size
    have dd := Lib.hid (blk6 HB0.out)
    have d0 := dd.out.1
    have d1 := dd.out.2.1
    have d2 := dd.out.2.2.1
    have d3 := dd.out.2.2.2.1
    have d4 := dd.out.2.2.2.2.1
    have d5 := dd.out.2.2.2.2.2.1
    have dlt := dd.out.2.2.2.2.2.2
    have f4 := HB0.out.frozen 4
    have f5 := HB0.out.frozen 5
    clear h2_ h5_ h2' h5' hbw
    have HBF := Lib.hid (Blk.far (Blk.far HB1.out (show W.heap.size + 1 ≠ (⟨W.heap.size, 4, none⟩ : Addr).block by simp) (.slice a4 la.length c4)) (show W.heap.size + 1 ≠ (⟨W.heap.size, 5, none⟩ : Addr).block by simp) (.slice a5 ls.length c5))
    have HONE : Hid ((#[.int .i64 a0, .int .i64 a1, .int .i64 a2, .int .i64 a3, .slice a4 la.length c4, .slice a5 ls.length c5] : Array Value).all (·.oneCell') = true) := Lib.hid (by simp [Value.oneCell'])
    go_wp2_with (refine wpList_store_blk rfl 37 (.tmp 2) (.tmp 11) rfl (W.heap.size + 1) 37 _ #[.int .i64 a0, .int .i64 a1, .int .i64 a2, .int .i64 a3, .slice a4 la.length c4, .slice a5 ls.length c5] rfl rfl HBF.out op_info rfl HONE.out ?_)
    intro w9 hB9 hs9 hf9 hk9
    have HE := Lib.hid (row_blk HX.out.1 (w' := w9) fun g cur hg hB => hk9 g _ cur (by omega) (Blk.far (Blk.far hB (show g ≠ (⟨W.heap.size, 4, none⟩ : Addr).block by simp; omega) _) (show g ≠ (⟨W.heap.size, 5, none⟩ : Addr).block by simp; omega) _))
    have HF := Lib.hid (row_blk HX.out.2 (w' := w9) fun g cur hg hB => hk9 g _ cur (by omega) (Blk.far (Blk.far hB (show g ≠ (⟨W.heap.size, 4, none⟩ : Addr).block by simp; omega) _) (show g ≠ (⟨W.heap.size, 5, none⟩ : Addr).block by simp; omega) _))
    have HG := Lib.hid (hf9 W.heap.size W (by omega) ((KQ.out.setCell (p := ⟨W.heap.size, 4, none⟩) (Nat.le_refl _) _).setCell (p := ⟨W.heap.size, 5, none⟩) (Nat.le_refl _) _))
    have HL := Lib.hid (run_loadVar_mid (P := Try.prog) w9 (W.heap.size + 1) 0 37 _ _ (Blk.range hB9) Try.underlying37 rfl op_info)
    clear hk9 hf9
    go_wp2
    refine bodyPost_ret (results_cell rfl rfl HL.out) rfl ⟨_, rfl, HO.out _ _ _ (ownsRow_base HE.out (Nat.zero_le _)) (ownsRow_base HF.out (Nat.zero_le _)), HG.out⟩
end Go.Proofs.Ytgaolgfjbgflgaa
