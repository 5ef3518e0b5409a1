/-
  Chapter 28: New, Deliver, Drop and Counts.
-/
import Derived.Test.YtmcdmcnbnnfhnaaVe
namespace Go.Proofs.Ytmcdmcnbnnfhnaa
open Go.RowKit

def newS (l : Int) : NetS := ⟨l, 0, 0, fun _ => none, none, 0, 0, 0, 0⟩
def NewMade (l : Int) (w : World) (e : Ending) (w' : World) : Prop :=
  ∃ n b, e = .returned (.tuple #[.pointer (some ⟨n, 0, none⟩), .int .i64 0]) ∧ NetAt (fun k => k = n ∨ k = b) n b (.map none) (newS l) w' ∧ Below w.heap.size w w' ∧ w.heap.size ≤ n ∧ w.heap.size ≤ b
def NoNew (w : World) (e : Ending) (w' : World) : Prop := e = .returned (.tuple #[.pointer none, .int .i64 1]) ∧ w' = w
def okL (l : Int) : Prop := 1 ≤ l ∧ l ≤ 65536
theorem Kept.new {S : Nat → Prop} {g : Nat} {w w' w'' : World} (h : Kept S w w') (k : Kept (fun b => b = g) w' w'') (hg : w.heap.size ≤ g) : Kept S w w'' :=
  ⟨k.os.trans h.os, k.tape.trans h.tape, k.output.trans h.output, Nat.le_trans h.size k.size, fun i hi hs => (k.block i (Nat.lt_of_lt_of_le hi h.size) (by show ¬ i = g; omega)).trans (h.block i hi hs)⟩
section
variable {P : Nat → Prop} {n b : Nat} {gv : Value} {s : NetS} {w : World}
set_option maxRecDepth 100000
set_option maxHeartbeats 4000000
theorem new_no (l : Int) (w : World) (h : ¬ okL l) : Calls Try.prog 9 #[.int .i64 l] w (NoNew w) := by
  have HF : Hid (∀ e w', e = .returned (.tuple #[.pointer none, .int .i64 1]) ∧ w' = w → NoNew w e w') := Lib.hid fun _ _ h => h
  unfold okL at h
  generalize hQ : NoNew w = Q at *
  clear hQ
  by_cases h1 : 1 ≤ l
  · have h2 : 65536 < l := by omega
    have e1 : decide (l < 1) = false := by simpa using h1
    clear h
    go_enter Try.func9, Try.ntmps9
    go_wp2
    exact HF.out _ _ ⟨rfl, rfl⟩
  · have e1 : decide (l < 1) = true := by simp; omega
    clear h h1
    go_enter Try.func9, Try.ntmps9
    go_wp2
    exact HF.out _ _ ⟨rfl, rfl⟩
theorem new_yes (l : Int) (w : World) (h : okL l) : Calls Try.prog 9 #[.int .i64 l] w (NewMade l w) := by
  have HF : Hid (∀ e w', (∃ n b, e = .returned (.tuple #[.pointer (some ⟨n, 0, none⟩), .int .i64 0]) ∧ NetAt (fun k => k = n ∨ k = b) n b (.map none) (newS l) w' ∧ Below w.heap.size w w' ∧ w.heap.size ≤ n ∧ w.heap.size ≤ b) → NewMade l w e w') := Lib.hid fun _ _ h => h
  unfold okL at h
  have e1 : decide (l < 1) = false := by simpa using h.1
  have e2 : decide (65536 < l) = false := by simpa using h.2
  have HB : Hid (NetAt (fun k => k = w.heap.size + 1 ∨ k = w.heap.size) (w.heap.size + 1) w.heap.size (.map none) (newS l) ((w.alloc (.map #[] 0)).alloc (.cells (netC (newS l) w.heap.size (.map none)) 75)) ∧ Below w.heap.size w ((w.alloc (.map #[] 0)).alloc (.cells (netC (newS l) w.heap.size (.map none)) 75))) := Lib.hid (by
    have h1 := Blk.new (w.alloc (.map #[] 0)) 75 (netC (newS l) w.heap.size (.map none))
    rw [World.size_alloc] at h1
    refine ⟨⟨.inl rfl, .inr rfl, by omega, h1, ?_, .inl ⟨rfl, rfl⟩⟩, below_two2 w _ _⟩
    exact ⟨_, (MapV.made w).on ((Below.refl _ _).alloc (Nat.le_refl _) _), fun x _ => ⟨fun _ => rfl, fun m hm => by cases hm⟩⟩)
  clear h
  generalize hQ : NewMade l w = Q at *
  clear hQ
  go_enter Try.func9, Try.ntmps9
  go_wp2_with (refine wpList_map_made rfl 72 rfl ?_)
  exact HF.out _ _ ⟨_, _, rfl, HB.out.1, HB.out.2, by omega, by omega⟩
def delR (s : NetS) (x : Int) : MsgM × Int × NetS :=
  match s.ms x with
  | none => (zeroM, 14, s)
  | some m => if connB s.grp m.frm m.to = true then (m, 0, { s with cnt := s.cnt - 1, ms := updM s.ms x none, taken := s.taken + 1 }) else (zeroM, 9, s)
def DelMade (P : Nat → Prop) (n b : Nat) (gv : Value) (m : MsgM) (r : Int) (s' : NetS) (w : World) (e : Ending) (w' : World) : Prop :=
  ∃ cs : List Value, e = .returned (.tuple #[.agg cs.toArray, .int .i64 r]) ∧ NetAt P n b gv s' w' ∧ Kept (fun k => k = n ∨ k = b) w w' ∧ CellsD (fun k => w.heap.size ≤ k) w' cs (msgD m)
theorem deliver_any (x : Int) (hx : I64 x) (h : NetAt P n b gv s w) (ht : 0 ≤ s.taken) (ht2 : s.taken < 4611686018427387904) :
    Calls Try.prog 16 #[.pointer (some ⟨n, 0, none⟩), .int .i64 x] w (DelMade P n b gv (delR s x).1 (delR s x).2.1 (delR s x).2.2 w) := by
  have HF : Hid (∀ m r s' e w', (∃ cs : List Value, e = .returned (.tuple #[.agg cs.toArray, .int .i64 r]) ∧ NetAt P n b gv s' w' ∧ Kept (fun k => k = n ∨ k = b) w w' ∧ CellsD (fun k => w.heap.size ≤ k) w' cs (msgD m)) → DelMade P n b gv m r s' w e w') := Lib.hid fun _ _ _ _ _ h => h
  have HN : Hid (NetAt (fun k => P k ∧ k < w.heap.size) n b gv s w) := Lib.hid (h.mono fun k hk hlt => ⟨hk, hlt⟩)
  have HX := Lib.hid hx
  have HZL : Hid (zeroC.length = 15) := Lib.hid rfl
  have HZ1 : Hid (zeroC.toArray.all (·.oneCell') = true) := Lib.hid (CellsD.all (zero_cells (fun _ => True) w))
  have HB : Hid (Blk (w.alloc (.cells zeroC.toArray 39)) w.heap.size 39 zeroC.toArray ∧ Below w.heap.size w (w.alloc (.cells zeroC.toArray 39)) ∧ (w.alloc (.cells zeroC.toArray 39)).heap.size = w.heap.size + 1) := Lib.hid ⟨Blk.new w _ _, (Below.refl _ _).alloc (Nat.le_refl _) _, World.size_alloc _ _⟩
  have HNE : Hid (n < w.heap.size ∧ b < w.heap.size) := Lib.hid ⟨h.box.lt, h.blt⟩
  clear h hx
  have HPK := Lib.hid fun (W : World) (h : NetAt (fun k => P k ∧ k < w.heap.size) n b gv s W) => peek_any x HX.out h
  unfold delR
  unfold peekR at HPK
  cases hms : s.ms x with
  | none =>
    simp only [hms] at HPK
    simp only
    have HF2 := Lib.hid (HF.out zeroM 14 s)
    generalize hQ : DelMade P n b gv zeroM 14 s w = Q at *
    clear HF hQ hms
    go_enter Try.func16, Try.ntmps16
    go_upto_region 1 with fail
    change Code.wp _ _ _ _ (w.alloc (.cells zeroC.toArray 39))
    generalize hw1 : World.alloc w _ = w1 at HB ⊢
    clear hw1
    have HCL := Lib.hid (HPK.out w1 (HN.out.on HB.out.2.1))
    clear HPK
    go_wp2_with fail
    refine HCL.out.mono ?_
    rintro e w2 ⟨cs, rfl, hb2, hc2⟩
    have HC2 := Lib.hid hc2
    have HLEN := Lib.hid (msg_len hc2)
    have HC1 := Lib.hid (CellsD.all hc2)
    have HFT := Lib.hid (msg_ft hc2)
    have HB2 : Hid (Blk w2 w.heap.size 39 zeroC.toArray ∧ Below w.heap.size w w2 ∧ w.heap.size + 1 ≤ w2.heap.size) := Lib.hid ⟨HB.out.1.on hb2, HB.out.2.1.trans (hb2.mono HB.out.2.1.size), by have h1 := hb2.size; have h2 := HB.out.2.2; omega⟩
    have HLE : Hid (w.heap.size + 1 ≤ w1.heap.size) := Lib.hid (by have h2 := HB.out.2.2; omega)
    have HS : Hid (Blk (w2.alloc (.cells zeroC.toArray 39)) w2.heap.size 39 zeroC.toArray) := Lib.hid (Blk.new w2 _ _)
    clear hb2 hc2 HCL HB
    go_upto_region 2 with ((refine wpList_store_msg rfl (.tmp 6) (.tmp 12) rfl w2.heap.size zeroC.toArray cs rfl rfl HS.out rfl HLEN.out HC1.out ?_; intro w3 hB3 hk3))
    have HB3 : Hid (Blk w3 w.heap.size 39 zeroC.toArray ∧ Below w.heap.size w w3 ∧ Blk w3 w2.heap.size 39 cs.toArray ∧ w.heap.size + 1 ≤ w2.heap.size ∧ CellsD (fun k => w.heap.size + 1 ≤ k) w3 cs (msgD zeroM)) := Lib.hid (by
      have h1 := (Kept.of ((Below.refl w2.heap.size w2).alloc (Nat.le_refl _) (.cells zeroC.toArray 39)) : Kept (fun b => b = w2.heap.size) w2 _).trans hk3
      have hz := HB2.out.2.2
      exact ⟨h1.blk HB2.out.1 (by show ¬ w.heap.size = w2.heap.size; omega), HB2.out.2.1.trans (h1.below HB2.out.2.1.size fun k hk e => by omega), hB3, hz, HC2.out.1, fun i u d e1 e2 => ((HC2.out.2 i u d e1 e2).lt.kept h1 fun k hk e => by have := hk.2; omega).mono fun k hk _ => by have := HLE.out; have := hk.1; omega⟩)
    clear hB3 hk3 HS HB2 HC2
    go_wp2_with (first | (refine wpList_load_msg rfl (.tmp 6) rfl w2.heap.size cs rfl HB3.out.2.2.1 HLEN.out ?_) | (refine wpList_store_msg rfl (.tmp 4) (.tmp 16) rfl w.heap.size zeroC.toArray cs rfl rfl HB3.out.1 rfl HLEN.out HC1.out ?_; intro w4 hB4 hk4))
    have HL := Lib.hid (load_msg hB4 HLEN.out)
    have HG : Hid (Below w.heap.size w w4 ∧ CellsD (fun k => w.heap.size ≤ k) w4 cs (msgD zeroM)) := Lib.hid ⟨HB3.out.2.1.trans (hk4.below HB3.out.2.1.size fun k hk e => by omega), HB3.out.2.2.2.2.1, fun i u d e1 e2 => ((HB3.out.2.2.2.2.2 i u d e1 e2).kept hk4 fun k hk e => by omega).mono fun k hk _ => by omega⟩
    clear hB4 hk4
    go_wp2
    refine bodyPost_ret (results_cell2 rfl rfl HL.out rfl) rfl (HF2.out _ _ ⟨cs, rfl, (HN.out.on HG.out.1).mono fun k hk _ => hk.1, Kept.of HG.out.1, HG.out.2⟩)
  | some m =>
    simp only [hms] at HPK
    simp only
    have HMS := Lib.hid hms
    clear hms
    cases hcon : connB s.grp m.frm m.to with
    | false =>
      simp only [Bool.false_eq_true, if_false]
      have HF2 := Lib.hid (HF.out zeroM 9 s)
      generalize hQ : DelMade P n b gv zeroM 9 s w = Q at *
      have HCON := Lib.hid hcon
      clear HF hQ hcon
      go_enter Try.func16, Try.ntmps16
      go_upto_region 1 with fail
      change Code.wp _ _ _ _ (w.alloc (.cells zeroC.toArray 39))
      generalize hw1 : World.alloc w _ = w1 at HB ⊢
      clear hw1
      have HCL := Lib.hid (HPK.out w1 (HN.out.on HB.out.2.1))
      clear HPK
      go_wp2_with fail
      refine HCL.out.mono ?_
      rintro e w2 ⟨cs, rfl, hb2, hc2⟩
      have HC2 := Lib.hid hc2
      have HLEN := Lib.hid (msg_len hc2)
      have HC1 := Lib.hid (CellsD.all hc2)
      have HFT := Lib.hid (msg_ft hc2)
      have HB2 : Hid (Blk w2 w.heap.size 39 zeroC.toArray ∧ Below w.heap.size w w2 ∧ w.heap.size + 1 ≤ w2.heap.size) := Lib.hid ⟨HB.out.1.on hb2, HB.out.2.1.trans (hb2.mono HB.out.2.1.size), by have h1 := hb2.size; have h2 := HB.out.2.2; omega⟩
      have HLE : Hid (w.heap.size + 1 ≤ w1.heap.size) := Lib.hid (by have h2 := HB.out.2.2; omega)
      have HS : Hid (Blk (w2.alloc (.cells zeroC.toArray 39)) w2.heap.size 39 zeroC.toArray) := Lib.hid (Blk.new w2 _ _)
      clear hb2 hc2 HCL HB
      go_upto_region 2 with ((refine wpList_store_msg rfl (.tmp 6) (.tmp 12) rfl w2.heap.size zeroC.toArray cs rfl rfl HS.out rfl HLEN.out HC1.out ?_; intro w3 hB3 hk3))
      have HB3 : Hid (Blk w3 w.heap.size 39 zeroC.toArray ∧ Below w.heap.size w w3 ∧ Blk w3 w2.heap.size 39 cs.toArray ∧ w.heap.size + 1 ≤ w2.heap.size ∧ CellsD (fun k => w.heap.size + 1 ≤ k) w3 cs (msgD m)) := Lib.hid (by
        have h1 := (Kept.of ((Below.refl w2.heap.size w2).alloc (Nat.le_refl _) (.cells zeroC.toArray 39)) : Kept (fun b => b = w2.heap.size) w2 _).trans hk3
        have hz := HB2.out.2.2
        exact ⟨h1.blk HB2.out.1 (by show ¬ w.heap.size = w2.heap.size; omega), HB2.out.2.1.trans (h1.below HB2.out.2.1.size fun k hk e => by omega), hB3, hz, HC2.out.1, fun i u d e1 e2 => ((HC2.out.2 i u d e1 e2).lt.kept h1 fun k hk e => by have := hk.2; omega).mono fun k hk _ => by have := HLE.out; have := hk.1; omega⟩)
      clear hB3 hk3 HS HB2 HC2
      have d1 : w3.cell? ⟨w2.heap.size, 1, none⟩ = some (.int .i64 m.frm) := by rw [HB3.out.2.2.1.cell, List.getElem?_toArray]; exact HFT.out.1
      have d2 : w3.cell? ⟨w2.heap.size, 2, none⟩ = some (.int .i64 m.to) := by rw [HB3.out.2.2.1.cell, List.getElem?_toArray]; exact HFT.out.2.1
      have HCN := Lib.hid (connected_any m.frm m.to (HN.out.on HB3.out.2.1))
      rw [HCON.out] at HCN
      go_wp2_with fail
      refine HCN.out.mono ?_
      rintro e w3' ⟨rfl, rfl⟩
      clear d1 d2 HCN
      go_wp2_with (refine wpList_store_msg rfl (.tmp 4) (.tmp 25) rfl w.heap.size zeroC.toArray zeroC rfl rfl HB3.out.1 rfl HZL.out HZ1.out ?_; intro w4 hB4 hk4)
      have HL := Lib.hid (load_msg hB4 HZL.out)
      have HG : Hid (Below w.heap.size w w4) := Lib.hid (HB3.out.2.1.trans (hk4.below HB3.out.2.1.size fun k hk e => by omega))
      clear hB4 hk4
      go_wp2
      refine bodyPost_ret (results_cell2 rfl rfl HL.out rfl) rfl (HF2.out _ _ ⟨zeroC, rfl, (HN.out.on HG.out).mono fun k hk _ => hk.1, Kept.of HG.out, zero_cells _ _⟩)
    | true =>
      simp only [if_true]
      have HF2 := Lib.hid (HF.out m 0 { s with cnt := s.cnt - 1, ms := updM s.ms x none, taken := s.taken + 1 })
      generalize hQ : DelMade P n b gv m 0 { s with cnt := s.cnt - 1, ms := updM s.ms x none, taken := s.taken + 1 } w = Q at *
      have HCON := Lib.hid hcon
      clear HF hQ hcon
      go_enter Try.func16, Try.ntmps16
      go_upto_region 1 with fail
      change Code.wp _ _ _ _ (w.alloc (.cells zeroC.toArray 39))
      generalize hw1 : World.alloc w _ = w1 at HB ⊢
      clear hw1
      have HCL := Lib.hid (HPK.out w1 (HN.out.on HB.out.2.1))
      clear HPK
      go_wp2_with fail
      refine HCL.out.mono ?_
      rintro e w2 ⟨cs, rfl, hb2, hc2⟩
      have HC2 := Lib.hid hc2
      have HLEN := Lib.hid (msg_len hc2)
      have HC1 := Lib.hid (CellsD.all hc2)
      have HFT := Lib.hid (msg_ft hc2)
      have HB2 : Hid (Blk w2 w.heap.size 39 zeroC.toArray ∧ Below w.heap.size w w2 ∧ w.heap.size + 1 ≤ w2.heap.size) := Lib.hid ⟨HB.out.1.on hb2, HB.out.2.1.trans (hb2.mono HB.out.2.1.size), by have h1 := hb2.size; have h2 := HB.out.2.2; omega⟩
      have HLE : Hid (w.heap.size + 1 ≤ w1.heap.size) := Lib.hid (by have h2 := HB.out.2.2; omega)
      have HS : Hid (Blk (w2.alloc (.cells zeroC.toArray 39)) w2.heap.size 39 zeroC.toArray) := Lib.hid (Blk.new w2 _ _)
      clear hb2 hc2 HCL HB
      go_upto_region 2 with ((refine wpList_store_msg rfl (.tmp 6) (.tmp 12) rfl w2.heap.size zeroC.toArray cs rfl rfl HS.out rfl HLEN.out HC1.out ?_; intro w3 hB3 hk3))
      have HB3 : Hid (Blk w3 w.heap.size 39 zeroC.toArray ∧ Below w.heap.size w w3 ∧ Blk w3 w2.heap.size 39 cs.toArray ∧ w.heap.size + 1 ≤ w2.heap.size ∧ CellsD (fun k => w.heap.size + 1 ≤ k) w3 cs (msgD m)) := Lib.hid (by
        have h1 := (Kept.of ((Below.refl w2.heap.size w2).alloc (Nat.le_refl _) (.cells zeroC.toArray 39)) : Kept (fun b => b = w2.heap.size) w2 _).trans hk3
        have hz := HB2.out.2.2
        exact ⟨h1.blk HB2.out.1 (by show ¬ w.heap.size = w2.heap.size; omega), HB2.out.2.1.trans (h1.below HB2.out.2.1.size fun k hk e => by omega), hB3, hz, HC2.out.1, fun i u d e1 e2 => ((HC2.out.2 i u d e1 e2).lt.kept h1 fun k hk e => by have := hk.2; omega).mono fun k hk _ => by have := HLE.out; have := hk.1; omega⟩)
      clear hB3 hk3 HS HB2 HC2
      have d1 : w3.cell? ⟨w2.heap.size, 1, none⟩ = some (.int .i64 m.frm) := by rw [HB3.out.2.2.1.cell, List.getElem?_toArray]; exact HFT.out.1
      have d2 : w3.cell? ⟨w2.heap.size, 2, none⟩ = some (.int .i64 m.to) := by rw [HB3.out.2.2.1.cell, List.getElem?_toArray]; exact HFT.out.2.1
      have HCN := Lib.hid (connected_any m.frm m.to (HN.out.on HB3.out.2.1))
      rw [HCON.out] at HCN
      go_wp2_with fail
      refine HCN.out.mono ?_
      rintro e w3' ⟨rfl, rfl⟩
      clear d1 d2 HCN
      have HNQ := Lib.hid (HN.out.on HB3.out.2.1)
      obtain ⟨M, hM, hM2⟩ := HNQ.out.way
      have HMM := Lib.hid hM
      have HM2 := Lib.hid hM2
      have HSO : Hid ((M x).isSome = true) := Lib.hid (by obtain ⟨cs', h1, _⟩ := (hM2 x HX.out).2 m HMS.out; rw [h1]; rfl)
      clear hM hM2
      have d2 : w3'.cell? ⟨n, 2, none⟩ = some (.map (some b)) := HNQ.out.box.cell 2
      go_upto_region 7 with ((refine wpList_mapv_del rfl 72 (.tmp 29) (.tmp 30) rfl Try.underlying72 rfl HMM.out rfl HX.out ?_; intro w5 hw5 hk5))
      rw [HSO.out, if_pos rfl] at hw5
      have HN5 := Lib.hid (HNQ.out.delm hk5 HM2.out hw5)
      have HB5 : Hid (Blk w5 w.heap.size 39 zeroC.toArray ∧ Kept (fun k => k = n ∨ k = b) w w5 ∧ Blk w5 w2.heap.size 39 cs.toArray ∧ CellsD (fun k => w.heap.size + 1 ≤ k) w5 cs (msgD m)) := Lib.hid (by
        have h1 := HNE.out
        have h2 := HB3.out.2.2.2.1
        exact ⟨hk5.blk HB3.out.1 (by show ¬ w.heap.size = b; omega), (Kept.of HB3.out.2.1).trans (hk5.mono fun k _ h => .inr h), hk5.blk HB3.out.2.2.1 (by show ¬ w2.heap.size = b; omega), HB3.out.2.2.2.2.1, fun i u d e1 e2 => (HB3.out.2.2.2.2.2 i u d e1 e2).kept hk5 fun k hk e => by omega⟩)
      clear hw5 hk5 d2 HMM HM2 HNQ
      have d6 : w5.cell? ⟨n, 6, none⟩ = some (.int .i64 s.taken) := HN5.out.box.cell 6
      have f6 : w5.frozen? ⟨n, 6, none⟩ = false := HN5.out.box.frozen 6
      have z6 : n < w5.heap.size := HN5.out.box.lt
      go_upto_region 8 with fail
      have H6 : Hid (NetAt (fun k => P k ∧ k < w.heap.size) n b gv { s with cnt := s.cnt - 1, ms := updM s.ms x none, taken := s.taken + 1 } (World.setCell w5 ⟨n, 6, none⟩ (.int .i64 (s.taken + 1))) ∧ Kept (fun k => k = n) w5 (World.setCell w5 ⟨n, 6, none⟩ (.int .i64 (s.taken + 1)))) := Lib.hid ⟨HN5.out.set (s' := { s with cnt := s.cnt - 1, ms := updM s.ms x none, taken := s.taken + 1 }) 6 (.int .i64 (s.taken + 1)) rfl rfl rfl rfl, Kept.set (S := fun k => k = n) (p := ⟨n, 6, none⟩) _ rfl⟩
      generalize hw6 : World.setCell w5 _ _ = w6 at H6 ⊢
      clear hw6 d6 f6 z6
      have HB6 : Hid (Blk w6 w.heap.size 39 zeroC.toArray ∧ Kept (fun k => k = n ∨ k = b) w w6 ∧ Blk w6 w2.heap.size 39 cs.toArray ∧ CellsD (fun k => w.heap.size + 1 ≤ k) w6 cs (msgD m)) := Lib.hid (by
        have h1 := HNE.out
        have h2 := HB3.out.2.2.2.1
        exact ⟨H6.out.2.blk HB5.out.1 (by show ¬ w.heap.size = n; omega), HB5.out.2.1.trans (H6.out.2.mono fun k _ h => .inl h), H6.out.2.blk HB5.out.2.2.1 (by show ¬ w2.heap.size = n; omega), HB5.out.2.2.2.1, fun i u d e1 e2 => (HB5.out.2.2.2.2 i u d e1 e2).kept H6.out.2 fun k hk e => by omega⟩)
      clear HB5 HN5
      go_wp2_with (first | (refine wpList_load_msg rfl (.tmp 6) rfl w2.heap.size cs rfl HB6.out.2.2.1 HLEN.out ?_) | (refine wpList_store_msg rfl (.tmp 4) (.tmp 38) rfl w.heap.size zeroC.toArray cs rfl rfl HB6.out.1 rfl HLEN.out HC1.out ?_; intro w7 hB7 hk7))
      have HL := Lib.hid (load_msg hB7 HLEN.out)
      have HG : Hid (NetAt P n b gv { s with cnt := s.cnt - 1, ms := updM s.ms x none, taken := s.taken + 1 } w7 ∧ Kept (fun k => k = n ∨ k = b) w w7 ∧ CellsD (fun k => w.heap.size ≤ k) w7 cs (msgD m)) := Lib.hid ⟨(H6.out.1.kept hk7 fun k hk e => by have := hk.2; omega).mono fun k hk _ => hk.1, HB6.out.2.1.new hk7 (Nat.le_refl _), HB6.out.2.2.2.1, fun i u d e1 e2 => ((HB6.out.2.2.2.2 i u d e1 e2).kept hk7 fun k hk e => by omega).mono fun k hk _ => by omega⟩
      clear hB7 hk7
      go_wp2
      refine bodyPost_ret (results_cell2 rfl rfl HL.out rfl) rfl (HF2.out _ _ ⟨cs, rfl, HG.out.1, HG.out.2.1, HG.out.2.2⟩)
end
end Go.Proofs.Ytmcdmcnbnnfhnaa
