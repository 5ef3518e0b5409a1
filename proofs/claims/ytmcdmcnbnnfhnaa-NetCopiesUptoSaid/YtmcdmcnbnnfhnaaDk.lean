/-
  Chapter 28: a message copied.
-/
import Derived.Test.YtmcdmcnbnnfhnaaDj
namespace Go.Proofs.Ytmcdmcnbnnfhnaa
open Go.RowKit

/-- The loop over digests: prefix and sum of those before i are copied; with the prefix of i. -/
def QD (B g i : Nat) : Nat → Nat → Nat → Prop := fun j k b => if k < 2 ∧ j < i then g < b else b < B
def QD1 (B g i : Nat) : Nat → Nat → Nat → Prop := fun j k b => if (k < 2 ∧ j < i) ∨ (k = 0 ∧ j = i) then g < b else b < B
theorem dig_at0 (l : List DigM) {i : Nat} (hi : i < l.length) : ∃ (h1 : i < (l.map digD).length) (h2 : 0 < ((l.map digD)[i]'h1).length), bytesD l[i].pre = ((l.map digD)[i]'h1)[0]'h2 := ⟨by simpa using hi, by simp [digD], by simp [digD]⟩
theorem dig_at1 (l : List DigM) {i : Nat} (hi : i < l.length) : ∃ (h1 : i < (l.map digD).length) (h2 : 1 < ((l.map digD)[i]'h1).length), bytesD l[i].sum = ((l.map digD)[i]'h1)[1]'h2 := ⟨by simpa using hi, by simp [digD], by simp [digD]⟩
theorem dig_done {B g i : Nat} {P : Nat → Prop} (l : List DigM) (j : Nat) (hj : j < (l.map digD).length) (k : Nat) (hk : k < (l.map digD)[j].length) (hji : k < 2 → j < i) (hP : ∀ b, g < b → P b) : isVal (l.map digD)[j][k] ∨ ∀ b, QD B g i j k b → P b := by
  by_cases h : k < 2
  · right
    intro b hb
    unfold QD at hb
    rw [if_pos ⟨h, hji h⟩] at hb
    exact hP b hb
  · left
    simp only [List.getElem_map, digD, List.length_cons, List.length_nil] at hk ⊢
    match k, hk, h with
    | 2, _, _ => trivial
    | 0, _, h => exact absurd (by decide) h
    | 1, _, h => exact absurd (by decide) h
/-- The loop over items: content and path of those before i are copied, in blocks between g and N. -/
def QI (B g N i : Nat) : Nat → Nat → Nat → Prop := fun j k b => if (k = 2 ∨ k = 3) ∧ j < i then g < b ∧ b < N else b < B
def QI1 (B g N i : Nat) : Nat → Nat → Nat → Prop := fun j k b => if ((k = 2 ∨ k = 3) ∧ j < i) ∨ (k = 2 ∧ j = i) then g < b ∧ b < N else b < B
theorem QI.not {B g N i : Nat} (hg : B ≤ g) (j k : Nat) : ¬ QI B g N i j k g := by unfold QI; split <;> omega
theorem QI1.not {B g N i : Nat} (hg : B ≤ g) (j k : Nat) : ¬ QI1 B g N i j k g := by unfold QI1; split <;> omega
theorem QI1.of {B g N N' i : Nat} (hN : N ≤ N') {j k b : Nat} (h : if j = i ∧ k = 2 then g < b ∧ b < N' else QI B g N i j k b) : QI1 B g N' i j k b := by
  unfold QI at h
  unfold QI1
  by_cases e : j = i ∧ k = 2
  · rw [if_pos e] at h
    rw [if_pos (.inr ⟨e.2, e.1⟩)]; exact h
  · rw [if_neg e] at h
    by_cases e2 : (k = 2 ∨ k = 3) ∧ j < i
    · rw [if_pos e2] at h
      rw [if_pos (.inl e2)]; omega
    · rw [if_neg e2] at h
      rw [if_neg (by rintro (q | q); exact e2 q; exact e ⟨q.2, q.1⟩)]; exact h
theorem QI1.next {B g N N' i : Nat} (hN : N ≤ N') {j k b : Nat} (h : if j = i ∧ k = 3 then g < b ∧ b < N' else QI1 B g N i j k b) : QI B g N' (i + 1) j k b := by
  unfold QI1 at h
  unfold QI
  by_cases e : j = i ∧ k = 3
  · rw [if_pos e] at h
    rw [if_pos ⟨.inr e.2, by omega⟩]; exact h
  · rw [if_neg e] at h
    by_cases e2 : ((k = 2 ∨ k = 3) ∧ j < i) ∨ (k = 2 ∧ j = i)
    · rw [if_pos e2] at h
      rw [if_pos (by omega)]; omega
    · rw [if_neg e2] at h
      rw [if_neg (by omega)]; exact h
theorem QI1.mono {B g N N' i j k b : Nat} (hN : N ≤ N') (h : QI1 B g N i j k b) : QI1 B g N' i j k b := by
  unfold QI1 at *
  split
  · rw [if_pos (by assumption)] at h; omega
  · rw [if_neg (by assumption)] at h; exact h
theorem item_at2 (l : List ItemM) {i : Nat} (hi : i < l.length) : ∃ (h1 : i < (l.map itemD).length) (h2 : 2 < ((l.map itemD)[i]'h1).length), bytesD l[i].content = ((l.map itemD)[i]'h1)[2]'h2 := ⟨by simpa using hi, by simp [itemD], by simp [itemD]⟩
theorem item_at3 (l : List ItemM) {i : Nat} (hi : i < l.length) : ∃ (h1 : i < (l.map itemD).length) (h2 : 3 < ((l.map itemD)[i]'h1).length), pathD l[i].path = ((l.map itemD)[i]'h1)[3]'h2 := ⟨by simpa using hi, by simp [itemD], by simp [itemD]⟩
theorem item_done {B g N i : Nat} {P : Nat → Prop} (l : List ItemM) (j : Nat) (hj : j < (l.map itemD).length) (k : Nat) (hk : k < (l.map itemD)[j].length) (hji : j < i) (hP : ∀ b, g < b → P b) : isVal (l.map itemD)[j][k] ∨ ∀ b, QI B g N i j k b → P b := by
  by_cases h : k = 2 ∨ k = 3
  · right
    intro b hb
    unfold QI at hb
    rw [if_pos ⟨h, hji⟩] at hb
    exact hP b hb.1
  · left
    simp only [List.getElem_map, itemD, List.length_cons, List.length_nil] at hk ⊢
    match k, hk, h with
    | 0, _, _ => trivial
    | 1, _, _ => trivial
    | 2, _, h => exact absurd (.inl rfl) h
    | 3, _, h => exact absurd (.inr rfl) h
theorem RowV.base {B B' k K : Nat} {w : World} {oa : Option Addr} {T : TypeId} {Q : Nat → Nat → Nat → Nat → Prop} {ds : List (List DV)} (h : RowV B w oa k T K Q ds) (hB : B' ≤ B) : RowV B' w oa k T K Q ds := h.imp id fun ⟨a, g, b, c, d⟩ => ⟨a, g, b, Nat.le_trans hB c, d⟩
/-- A path under copying: its row, the item that holds it, the message. -/
structure PathL (W ws : World) (T : TypeId) (cells zs : Array Value) (N g k : Nat) (Q : Nat → Nat → Nat → Prop) (Qp : Nat → Nat → Nat → Nat → Prop) (ds pds : List (List DV)) (i n : Nat) (oa : Option Addr) (oc : Nat) (w : World) : Prop where
  row : RowV N w oa oc 22 1 Qp pds
  out : RowO w g k 95 4 Q ds i 3 (.slice oa n oc)
  msg : MsgL W ws w T cells zs
  le : N ≤ w.heap.size
section
variable {W ws w w' : World} {T : TypeId} {cells zs : Array Value} {N g k i n oc : Nat} {Q : Nat → Nat → Nat → Prop} {Qp : Nat → Nat → Nat → Nat → Prop} {ds pds : List (List DV)} {oa : Option Addr}
theorem PathL.on (h : PathL W ws T cells zs N g k Q Qp ds pds i n oa oc w) (hb : Below w.heap.size w w') : PathL W ws T cells zs N g k Q Qp ds pds i n oa oc w' := ⟨h.row.on hb, h.out.on hb, h.msg.on hb, Nat.le_trans h.le hb.size⟩
end
def leftPath (W ws : World) (T : TypeId) (cells zs : Array Value) (N g k : Nat) (Q : Nat → Nat → Nat → Prop) (Qp : Nat → Nat → Nat → Nat → Prop) (ds pds : List (List DV)) (i n : Nat) : Left := .has (fun _ w => ∃ oa oc, PathL W ws T cells zs N g k Q Qp ds pds i n oa oc w) fun _ _ _ hb ⟨oa, oc, h⟩ => ⟨oa, oc, h.on hb⟩
def leftPathAt (W ws : World) (T : TypeId) (cells zs : Array Value) (N g k : Nat) (Q : Nat → Nat → Nat → Prop) (Qp : Nat → Nat → Nat → Nat → Prop) (ds pds : List (List DV)) (i n : Nat) (oa : Option Addr) (oc : Nat) : Left := .has (fun _ w => PathL W ws T cells zs N g k Q Qp ds pds i n oa oc w) fun _ _ _ hb h => h.on hb
def leftV (B n : Nat) (Q : Nat → Nat → Nat → Nat → Prop) (ds : List (List DV)) : Left := .has (fun v w => ∃ oa k, v = .slice oa n k ∧ RowV B w oa k 22 1 Q ds) fun _ _ _ hb ⟨oa, k, h1, h2⟩ => ⟨oa, k, h1, h2.on hb⟩
def leftRowN (W ws : World) (T : TypeId) (cells zs : Array Value) (g k : Nat) (T2 : TypeId) (K : Nat) (Q : Nat → Nat → Nat → Nat → Prop) (ds : List (List DV)) : Left := .has (fun _ w => ∃ N, N ≤ w.heap.size ∧ RowD w g k T2 K (Q N) ds ∧ MsgL W ws w T cells zs) fun _ _ _ hb ⟨N, h0, h⟩ => ⟨N, Nat.le_trans h0 hb.size, h.1.on hb, h.2.on hb⟩
theorem msg_size : (Try.prog.info? 39).map (·.size) = some 15 := by kernel_rfl
theorem base_size : (Try.prog.info? 106).map (·.size) = some 2 := by kernel_rfl
theorem nine_of {cs : List Value} (h : cs.length = 9) : ∃ c0 c1 c2 c3 c4 c5 c6 c7 c8, cs = [c0, c1, c2, c3, c4, c5, c6, c7, c8] := by
  match cs, h with
  | [c0, c1, c2, c3, c4, c5, c6, c7, c8], _ => exact ⟨c0, c1, c2, c3, c4, c5, c6, c7, c8, rfl⟩
theorem proof_size : (Try.prog.info? 92).map (·.size) = some 10 := by kernel_rfl
set_option maxRecDepth 100000 in
set_option maxHeartbeats 16000000 in
theorem message_any {P : Nat → Prop} (m : MsgM) (cs : List Value) (W : World) (h : CellsD P W cs (msgD m)) : Calls Try.prog 34 #[.agg cs.toArray] W (AggMade W (msgD m)) := by
  obtain ⟨v0, cs, rfl, r0, h0⟩ := h.cons
  clear h
  obtain ⟨v1, cs, rfl, r1, h1⟩ := h0.cons
  clear h0
  obtain ⟨v2, cs, rfl, r2, h2⟩ := h1.cons
  clear h1
  obtain ⟨v3, cs, rfl, r3, h3⟩ := h2.cons
  clear h2
  obtain ⟨v4, cs, rfl, r4, h4⟩ := h3.cons
  clear h3
  obtain ⟨v5, cs, rfl, r5, h5⟩ := h4.cons
  clear h4
  obtain ⟨v6, cs, rfl, r6, h6⟩ := h5.cons
  clear h5
  obtain ⟨v7, cs, rfl, r7, h7⟩ := h6.cons
  clear h6
  obtain ⟨v8, cs, rfl, r8, h8⟩ := h7.cons
  clear h7
  obtain ⟨v9, cs, rfl, r9, h9⟩ := h8.cons
  clear h8
  obtain ⟨v10, cs, rfl, r10, h10⟩ := h9.cons
  clear h9
  obtain ⟨v11, cs, rfl, r11, h11⟩ := h10.cons
  clear h10
  obtain ⟨v12, cs, rfl, r12, h12⟩ := h11.cons
  clear h11
  obtain ⟨v13, cs, rfl, r13, h13⟩ := h12.cons
  clear h12
  obtain ⟨v14, cs, rfl, r14, h14⟩ := h13.cons
  clear h13
  have hn := h14.nil
  subst hn
  clear h14
  have e0 := r0.i
  subst e0
  have e1 := r1.i
  subst e1
  have e2 := r2.i
  subst e2
  have e3 := r3.i
  subst e3
  have e4 := r4.i
  subst e4
  have e5 := r5.i
  subst e5
  have e13 := r13.i
  subst e13
  have H6 := Lib.hid r6
  obtain ⟨a6, k6, rfl, -⟩ := ReadsD.slcM (f := ridD) r6
  clear r6
  have H7 := Lib.hid r7
  obtain ⟨a7, k7, rfl, -⟩ := ReadsD.slcM (f := baseD) r7
  clear r7
  have H8 := Lib.hid r8
  obtain ⟨a8, k8, rfl, -⟩ := ReadsD.slcM (f := cmdD) r8
  clear r8
  have H9 := Lib.hid r9
  obtain ⟨a9, k9, rfl, -⟩ := ReadsD.slcM (f := ackD) r9
  clear r9
  have H10 := Lib.hid r10
  obtain ⟨a10, k10, rfl, -⟩ := ReadsD.slcM (f := proofD) r10
  clear r10
  have H11 := Lib.hid r11
  obtain ⟨a11, k11, rfl, -⟩ := ReadsD.slcM (f := digD) r11
  clear r11
  have H12 := Lib.hid r12
  obtain ⟨a12, k12, rfl, -⟩ := ReadsD.slcM (f := fun s => [sD s]) r12
  clear r12
  have H14 := Lib.hid r14
  obtain ⟨a14, k14, rfl, -⟩ := ReadsD.slcM (f := itemD) r14
  clear r14
  clear r0 r1 r2 r3 r4 r5 r13
  have HFIN : Hid (∀ (w : World) (v6 v7 v8 v9 v10 v11 v12 v14 : Value), ReadsD (fun b => W.heap.size + 2 ≤ b) w v6 (ridsD m.reads) → ReadsD (fun b => W.heap.size + 2 ≤ b) w v7 (basesD m.base) → ReadsD (fun b => W.heap.size + 2 ≤ b) w v8 (cmdsD m.state) → ReadsD (fun b => W.heap.size + 2 ≤ b) w v9 (acksD m.acks) → ReadsD (fun b => W.heap.size + 2 ≤ b) w v10 (proofsD m.proof) → ReadsD (fun b => W.heap.size + 2 ≤ b) w v11 (digsD m.digs) → ReadsD (fun b => W.heap.size + 2 ≤ b) w v12 (objsD m.objs) → ReadsD (fun b => W.heap.size + 2 ≤ b) w v14 (itemsD m.items) → CellsD (fun b => W.heap.size ≤ b) w [.int .i64 m.kind, .int .i64 m.frm, .int .i64 m.to, .int .i64 m.r1, .int .i64 m.r2, .int .i64 m.r3, v6, v7, v8, v9, v10, v11, v12, .int .i64 m.seq, v14] (msgD m)) := Lib.hid fun w v6 v7 v8 v9 v10 v11 v12 v14 h6 h7 h8 h9 h10 h11 h12 h14 => by
    have hm : ∀ {v : Value} {d : DV}, ReadsD (fun b => W.heap.size + 2 ≤ b) w v d → ReadsD (fun b => W.heap.size ≤ b) w v d := fun h => h.mono fun b hb _ => by omega
    exact .mk (readsD_i _ _ _) (.mk (readsD_i _ _ _) (.mk (readsD_i _ _ _) (.mk (readsD_i _ _ _) (.mk (readsD_i _ _ _) (.mk (readsD_i _ _ _) (.mk (hm h6) (.mk (hm h7) (.mk (hm h8) (.mk (hm h9) (.mk (hm h10) (.mk (hm h11) (.mk (hm h12) (.mk (readsD_i _ _ _) (.mk (hm h14) (.empty)))))))))))))))
  generalize m.kind = n0 at *
  generalize m.frm = n1 at *
  generalize m.to = n2 at *
  generalize m.r1 = n3 at *
  generalize m.r2 = n4 at *
  generalize m.r3 = n5 at *
  generalize m.seq = n13 at *
  generalize m.reads = l6 at *
  generalize m.base = l7 at *
  generalize m.state = l8 at *
  generalize m.acks = l9 at *
  generalize m.proof = l10 at *
  generalize m.digs = l11 at *
  generalize m.objs = l12 at *
  generalize m.items = l14 at *
  generalize msgD m = dsm at *
  go_enter Try.func34, Try.ntmps34
  go_upto_region 1 with fail
  have HB := Lib.hid (BoxS.start W 39 #[.int .i64 n0, .int .i64 n1, .int .i64 n2, .int .i64 n3, .int .i64 n4, .int .i64 n5, .slice a6 l6.length k6, .slice a7 l7.length k7, .slice a8 l8.length k8, .slice a9 l9.length k9, .slice a10 l10.length k10, .slice a11 l11.length k11, .slice a12 l12.length k12, .int .i64 n13, .slice a14 l14.length k14] #[.int .i64 0, .int .i64 0, .int .i64 0, .int .i64 0, .int .i64 0, .int .i64 0, .slice none 0 0, .slice none 0 0, .slice none 0 0, .slice none 0 0, .slice none 0 0, .slice none 0 0, .slice none 0 0, .int .i64 0, .slice none 0 0])
  generalize hw0 : World.alloc (World.alloc W _) _ = w0 at HB ⊢
  clear hw0
  have q0 := (HB.out.at (i := 6) rfl).1
  have HCL := Lib.hid (reads_any _ l6 w0 (H6.out.on HB.out.bel))
  go_wp2_with fail
  refine HCL.out.mono ?_
  rintro e w1 ⟨v, rfl, hb, hv⟩
  have HV := Lib.hid (hv.mono (P' := fun b => W.heap.size + 2 ≤ b) fun b hb _ => Nat.le_trans HB.out.sz hb)
  obtain ⟨b6, j6, rfl, -⟩ := ReadsD.slcM (f := ridD) hv
  have HX := Lib.hid (HB.out.on hb)
  obtain ⟨d0, f0, l0⟩ := HX.out.at (i := 6) rfl
  clear q0 HCL hb hv HB
  go_upto_region 2 with fail
  have HB : Hid (BoxS W (World.setCell w1 ⟨W.heap.size, 6, none⟩ (.slice b6 l6.length j6)) 39 #[.int .i64 n0, .int .i64 n1, .int .i64 n2, .int .i64 n3, .int .i64 n4, .int .i64 n5, .slice b6 l6.length j6, .slice a7 l7.length k7, .slice a8 l8.length k8, .slice a9 l9.length k9, .slice a10 l10.length k10, .slice a11 l11.length k11, .slice a12 l12.length k12, .int .i64 n13, .slice a14 l14.length k14] #[.int .i64 0, .int .i64 0, .int .i64 0, .int .i64 0, .int .i64 0, .int .i64 0, .slice none 0 0, .slice none 0 0, .slice none 0 0, .slice none 0 0, .slice none 0 0, .slice none 0 0, .slice none 0 0, .int .i64 0, .slice none 0 0]) := Lib.hid (HX.out.set 6 _)
  have D6 := Lib.hid (HV.out.setc (g := W.heap.size) (i := 6) (u := .slice b6 l6.length j6) (by omega))
  generalize hw : World.setCell w1 _ _ = w2 at *
  clear hw HX HV d0 f0 l0
  have q0 := (HB.out.at (i := 7) rfl).1
  have HCL := Lib.hid (base_clone _ (l7.map baseD) w2 ((H7.out.lt.mono (P' := fun b => b < W.heap.size) fun b hb _ => hb.2).on HB.out.bel))
  go_wp2_with fail
  refine HCL.out.mono ?_
  rintro e w3 ⟨v, rfl, hcl⟩
  obtain ⟨hb, hL, b7, j7, rfl, hrv⟩ := hcl.rowv
  rw [List.length_map] at hL ⊢
  have HRV := Lib.hid hrv
  have HX := Lib.hid (HB.out.on hb)
  have HWS := Lib.hid (And.intro HB.out.sz hb)
  obtain ⟨d0, f0, l0⟩ := HX.out.at (i := 7) rfl
  clear q0 HCL hb hrv hcl HB
  go_upto_region 3 with fail
  have HM : Hid (MsgL W w2 (World.setCell w3 ⟨W.heap.size, 7, none⟩ (.slice b7 l7.length j7)) 39 #[.int .i64 n0, .int .i64 n1, .int .i64 n2, .int .i64 n3, .int .i64 n4, .int .i64 n5, .slice b6 l6.length j6, .slice b7 l7.length j7, .slice a8 l8.length k8, .slice a9 l9.length k9, .slice a10 l10.length k10, .slice a11 l11.length k11, .slice a12 l12.length k12, .int .i64 n13, .slice a14 l14.length k14] #[.int .i64 0, .int .i64 0, .int .i64 0, .int .i64 0, .int .i64 0, .int .i64 0, .slice none 0 0, .slice none 0 0, .slice none 0 0, .slice none 0 0, .slice none 0 0, .slice none 0 0, .slice none 0 0, .int .i64 0, .slice none 0 0]) := Lib.hid ⟨HX.out.set 7 _, (Kept.of HWS.out.2).trans (Kept.set _ rfl)⟩
  have HR : Hid (RowV w2.heap.size (World.setCell w3 ⟨W.heap.size, 7, none⟩ (.slice b7 l7.length j7)) b7 j7 106 2 (fun _ _ _ b => b < W.heap.size) (l7.map baseD)) := Lib.hid (HRV.out.kept (S := fun b => b = W.heap.size) (Kept.set _ rfl) (fun g hg e => by have := HWS.out.1; omega) fun g j i b hg hb _ e => by omega)
  generalize hw : World.setCell w3 _ _ = w4 at *
  clear hw HX HRV d0 f0 l0
  have q0 := (HM.out.box.at (i := 7) rfl).1
  go_wp2
  clear q0
  go_loopg [3, 19] l7.length (fun m _  ix wr => ∃ i : Nat, m + i = l7.length ∧ ix = .int .i64 i ∧ RowV w2.heap.size wr b7 j7 106 2 (fun g => QE W.heap.size g i) (l7.map baseD) ∧ MsgL W w2 wr 39 #[.int .i64 n0, .int .i64 n1, .int .i64 n2, .int .i64 n3, .int .i64 n4, .int .i64 n5, .slice b6 l6.length j6, .slice b7 l7.length j7, .slice a8 l8.length k8, .slice a9 l9.length k9, .slice a10 l10.length k10, .slice a11 l11.length k11, .slice a12 l12.length k12, .int .i64 n13, .slice a14 l14.length k14] #[.int .i64 0, .int .i64 0, .int .i64 0, .int .i64 0, .int .i64 0, .int .i64 0, .slice none 0 0, .slice none 0 0, .slice none 0 0, .slice none 0 0, .slice none 0 0, .slice none 0 0, .slice none 0 0, .int .i64 0, .slice none 0 0])
  case atStart => exact ⟨0, by omega, rfl, HR.out.mono (fun g j k b _ hb _ => by unfold QE; rw [if_neg (by omega)]; exact hb), HM.out⟩
  case round =>
    clear HR HM
    rename World => w5
    obtain ⟨i, hmi, rfl, hrv, hml⟩ := hrel
    have HMI := Lib.hid hmi
    have HRV := Lib.hid hrv
    have HML := Lib.hid hml
    have hi : i ≤ l7.length := by omega
    have hi0 : (0 : Int) ≤ (i : Int) := by omega
    clear hmi hrv hml
    by_cases hlt : i < l7.length
    · have hii : (i : Int) < l7.length := by omega
      have HLT := Lib.hid (And.intro hlt trivial)
      have q1 : i < (l7.map baseD).length := by simpa using hlt
      have q3 : (l7.map baseD)[i] = baseD l7[i] := List.getElem_map ..
      obtain ⟨g, e, hg, hrow⟩ := HRV.out.get q1
      subst e
      have HG := Lib.hid hg
      have HROW := Lib.hid hrow
      have HGL := Lib.hid hrow.lt
      clear HRV hg hrow
      obtain ⟨cs, hcl, hrg, hth, -, hrd⟩ := HROW.out.row q1
      rw [q3] at hrd
      have hcd : CellsD (fun b => b < W.heap.size) w5 cs (baseD l7[i]) := ⟨by rw [hcl]; rfl, fun k u d h1 h2 => (hrd k u d h1 h2).mono fun b hb _ => by unfold QE at hb; rw [if_neg (by omega)] at hb; exact hb⟩
      obtain ⟨s0, t0, s1, t1, rfl, hr0, hr1⟩ := base_at hcd
      have HQ := Lib.hid (fun (w' : World) (cs' : List Value) (hb : Below w5.heap.size w5 w') (hv : CellsD (fun b => g < b) w' cs' (baseD l7[i])) => (HROW.out.on hb).putRow (Q' := QE W.heap.size g (i + 1)) q1 (by rw [q3]; exact hv) (Nat.lt_irrefl g) (QE.not (by have := HG.out; have := HWS.out.1; omega)) fun _ _ _ h => QE.step h)
      have HRD := Lib.hid (And.intro hr0 hr1)
      have HRG := Lib.hid (fun (wq : World) (hq : Below w5.heap.size w5 wq) => And.intro (show wq.cell? ⟨g, i * 2, none⟩ = _ from hrg wq hq 0 _ rfl) (hrg wq hq 1 _ rfl))
      have HTH := Lib.hid hth
      have HBX := Lib.hid (fun (wq : World) (hq : Below w5.heap.size w5 wq) => ((HML.out.box.on hq).at (i := 7) rfl).1)
      clear hcl hrg hth hrd hcd q3 hr0 hr1 HROW
      generalize l7[i] = x at *
      clear q1 hlt
      go_upto_region 6 with fail
      refine region_loud [.is (.pointer (some ⟨W.heap.size, 7, none⟩)), .is (.slice (some ⟨g, 0, none⟩) l7.length j7), .is (.int .i64 (i : Int)), .is (.pointer (some ⟨W.heap.size, 7, none⟩)), .is (.slice (some ⟨g, 0, none⟩) l7.length j7), .is (.int .i64 (i : Int)), .is (.pointer (some ⟨g, i * 2, none⟩)), .is (.pointer (some ⟨g, i * 2, none⟩)), .is (.slice s0 x.steps.length t0), leftL w5.heap.size 9 certD x.steps, .is (.pointer (some ⟨W.heap.size, 7, none⟩)), .is (.slice (some ⟨g, 0, none⟩) l7.length j7), .is (.int .i64 (i : Int)), .is (.pointer (some ⟨g, i * 2, none⟩)), .is (.pointer (some ⟨g, i * 2 + 1, none⟩)), .is (.slice s1 x.taken.length t1), leftL w5.heap.size 6 cmdD x.taken, leftA w5.heap.size (baseD x), .is (.pointer (some ⟨g, i * 2, none⟩))] [] (leftRow W w2 39 #[.int .i64 n0, .int .i64 n1, .int .i64 n2, .int .i64 n3, .int .i64 n4, .int .i64 n5, .slice b6 l6.length j6, .slice (some ⟨g, 0, none⟩) l7.length j7, .slice a8 l8.length k8, .slice a9 l9.length k9, .slice a10 l10.length k10, .slice a11 l11.length k11, .slice a12 l12.length k12, .int .i64 n13, .slice a14 l14.length k14] #[.int .i64 0, .int .i64 0, .int .i64 0, .int .i64 0, .int .i64 0, .int .i64 0, .slice none 0 0, .slice none 0 0, .slice none 0 0, .slice none 0 0, .slice none 0 0, .slice none 0 0, .slice none 0 0, .int .i64 0, .slice none 0 0] g j7 106 2 (QE W.heap.size g (i + 1)) (l7.map baseD)) 19 rfl _ rfl (by kernel_rfl) rfl (by kernel_rfl) (by kernel_rfl) (by kernel_rfl) (by kernel_rfl) (.cons ?a0 (.cons ?a1 (.cons ?a2 (.cons ?a3 (.cons ?a4 (.cons ?a5 (.cons ?a6 (.cons ?a7 (.cons ?a8 (.cons ?a9 (.cons ?a10 (.cons ?a11 (.cons ?a12 (.cons ?a13 (.cons ?a14 (.cons ?a15 (.cons ?a16 (.cons ?a17 (.cons ?a18 .nil))))))))))))))))))) ?a19 (.nil) ?afin
      case a0 =>
        intro wq hbw st  K hK
        simp only [Act.put, List.setIfInBounds_toArray, List.set_cons_zero, List.set_cons_succ] at hK ⊢
        unfold opStep
        rw [if_pos (by rfl)]
        go_simp
        exact hK.out _ _ (Below.refl _ _) rfl _ rfl
      case a1 =>
        intro wq hbw st  K hK
        simp only [Act.put, List.setIfInBounds_toArray, List.set_cons_zero, List.set_cons_succ] at hK ⊢
        unfold opStep
        rw [if_pos (by rfl)]
        have d0 := HBX.out wq hbw
        go_simp
        exact hK.out _ _ (Below.refl _ _) rfl _ rfl
      case a2 =>
        intro wq hbw st  K hK
        simp only [Act.put, List.setIfInBounds_toArray, List.set_cons_zero, List.set_cons_succ] at hK ⊢
        unfold opStep
        rw [if_pos (by rfl)]
        go_simp
        exact hK.out _ _ (Below.refl _ _) rfl _ rfl
      case a3 =>
        intro wq hbw st  K hK
        simp only [Act.put, List.setIfInBounds_toArray, List.set_cons_zero, List.set_cons_succ] at hK ⊢
        unfold opStep
        rw [if_pos (by rfl)]
        go_simp
        exact hK.out _ _ (Below.refl _ _) rfl _ rfl
      case a4 =>
        intro wq hbw st  K hK
        simp only [Act.put, List.setIfInBounds_toArray, List.set_cons_zero, List.set_cons_succ] at hK ⊢
        unfold opStep
        rw [if_pos (by rfl)]
        have d0 := HBX.out wq hbw
        go_simp
        exact hK.out _ _ (Below.refl _ _) rfl _ rfl
      case a5 =>
        intro wq hbw st  K hK
        simp only [Act.put, List.setIfInBounds_toArray, List.set_cons_zero, List.set_cons_succ] at hK ⊢
        unfold opStep
        rw [if_pos (by rfl)]
        go_simp
        exact hK.out _ _ (Below.refl _ _) rfl _ rfl
      case a6 =>
        intro wq hbw st  K hK
        simp only [Act.put, List.setIfInBounds_toArray, List.set_cons_zero, List.set_cons_succ] at hK ⊢
        unfold opStep
        rw [if_pos (by rfl)]
        go_simp
        exact hK.out _ _ (Below.refl _ _) rfl _ rfl
      case a7 =>
        intro wq hbw st  K hK
        simp only [Act.put, List.setIfInBounds_toArray, List.set_cons_zero, List.set_cons_succ] at hK ⊢
        unfold opStep
        rw [if_pos (by rfl)]
        go_simp
        exact hK.out _ _ (Below.refl _ _) rfl _ rfl
      case a8 =>
        intro wq hbw st  K hK
        simp only [Act.put, List.setIfInBounds_toArray, List.set_cons_zero, List.set_cons_succ] at hK ⊢
        unfold opStep
        rw [if_pos (by rfl)]
        have dd := Lib.hid (HRG.out wq hbw)
        have d0 := dd.out.1
        have d1 := dd.out.2
        go_simp
        exact hK.out _ _ (Below.refl _ _) rfl _ rfl
      case a9 =>
        intro wq hbw st  K hK
        simp only [Act.put, List.setIfInBounds_toArray, List.set_cons_zero, List.set_cons_succ] at hK ⊢
        unfold opStep
        rw [if_pos (by rfl)]
        go_simp
        refine (certificates_any (.slice s0 x.steps.length t0) x.steps wq (HRD.out.1.on hbw)).mono ?_
        rintro e wz ⟨vz, rfl, hbz, hvz⟩
        obtain ⟨az, kz, rfl, -⟩ := ReadsD.slcM (f := certD) hvz
        go_simp
        exact hK.out _ _ hbz ⟨az, kz, rfl, hvz.mono fun b hb _ => Nat.le_trans hbw.size hb⟩ _ rfl
      case a10 =>
        intro wq hbw st  K hK
        simp only [Act.put, List.setIfInBounds_toArray, List.set_cons_zero, List.set_cons_succ] at hK ⊢
        unfold opStep
        rw [if_pos (by rfl)]
        go_simp
        exact hK.out _ _ (Below.refl _ _) rfl _ rfl
      case a11 =>
        intro wq hbw st  K hK
        simp only [Act.put, List.setIfInBounds_toArray, List.set_cons_zero, List.set_cons_succ] at hK ⊢
        unfold opStep
        rw [if_pos (by rfl)]
        have d0 := HBX.out wq hbw
        go_simp
        exact hK.out _ _ (Below.refl _ _) rfl _ rfl
      case a12 =>
        intro wq hbw st  K hK
        simp only [Act.put, List.setIfInBounds_toArray, List.set_cons_zero, List.set_cons_succ] at hK ⊢
        unfold opStep
        rw [if_pos (by rfl)]
        go_simp
        exact hK.out _ _ (Below.refl _ _) rfl _ rfl
      case a13 =>
        intro wq hbw st  K hK
        simp only [Act.put, List.setIfInBounds_toArray, List.set_cons_zero, List.set_cons_succ] at hK ⊢
        unfold opStep
        rw [if_pos (by rfl)]
        go_simp
        exact hK.out _ _ (Below.refl _ _) rfl _ rfl
      case a14 =>
        intro wq hbw st  K hK
        simp only [Act.put, List.setIfInBounds_toArray, List.set_cons_zero, List.set_cons_succ] at hK ⊢
        unfold opStep
        rw [if_pos (by rfl)]
        go_simp
        exact hK.out _ _ (Below.refl _ _) rfl _ rfl
      case a15 =>
        intro wq hbw st  K hK
        simp only [Act.put, List.setIfInBounds_toArray, List.set_cons_zero, List.set_cons_succ] at hK ⊢
        unfold opStep
        rw [if_pos (by rfl)]
        have dd := Lib.hid (HRG.out wq hbw)
        have d0 := dd.out.1
        have d1 := dd.out.2
        go_simp
        exact hK.out _ _ (Below.refl _ _) rfl _ rfl
      case a16 =>
        intro wq hbw st x9 h9 K hK
        simp only [Act.put, List.setIfInBounds_toArray, List.set_cons_zero, List.set_cons_succ] at hK ⊢
        unfold opStep
        rw [if_pos (by rfl)]
        go_simp
        refine (commands_any (.slice s1 x.taken.length t1) x.taken wq (HRD.out.2.on hbw)).mono ?_
        rintro e wz ⟨vz, rfl, hbz, hvz⟩
        obtain ⟨az, kz, rfl, -⟩ := ReadsD.slcM (f := cmdD) hvz
        go_simp
        exact hK.out _ _ hbz ⟨az, kz, rfl, hvz.mono fun b hb _ => Nat.le_trans hbw.size hb⟩ _ rfl
      case a17 =>
        intro wq hbw st x9 h9 x16 h16 K hK
        simp only [Act.put, List.setIfInBounds_toArray, List.set_cons_zero, List.set_cons_succ] at hK ⊢
        unfold opStep
        rw [if_pos (by rfl)]
        obtain ⟨a9, b9, rfl, h9⟩ : ∃ a k, x9 = .slice a x.steps.length k ∧ ReadsD (fun b => w5.heap.size ≤ b) wq x9 (certsD x.steps) := h9
        obtain ⟨a16, b16, rfl, h16⟩ : ∃ a k, x16 = .slice a x.taken.length k ∧ ReadsD (fun b => w5.heap.size ≤ b) wq x16 (cmdsD x.taken) := h16
        go_simp
        exact hK.out _ _ (Below.refl _ _) ⟨[.slice a9 x.steps.length b9, .slice a16 x.taken.length b16], rfl, .mk h9 (.mk h16 .empty)⟩ _ rfl
      case a18 =>
        intro wq hbw st x9 h9 x16 h16 x17 h17 K hK
        simp only [Act.put, List.setIfInBounds_toArray, List.set_cons_zero, List.set_cons_succ] at hK ⊢
        unfold opStep
        rw [if_pos (by rfl)]
        go_simp
        exact hK.out _ _ (Below.refl _ _) rfl _ rfl
      case a19 =>
        intro wq hbw st x9 h9 x16 h16 x17 h17 K hK
        simp only [Act.put, List.setIfInBounds_toArray, List.set_cons_zero, List.set_cons_succ] at hK ⊢
        unfold opStep
        rw [if_pos (by rfl)]
        obtain ⟨cs, rfl, hcs⟩ : ∃ cs : List Value, x17 = .agg cs.toArray ∧ CellsD (fun b => w5.heap.size ≤ b) wq cs (baseD x) := h17
        have hl2 : cs.length = 2 := hcs.1
        refine wp_store_mid 106 (.tmp 40) (.tmp 39) (by rfl) g (i * 2) cs.toArray (by rfl) (by rfl) (by rw [List.size_toArray, hl2]; exact HTH.out wq hbw) (by rw [List.size_toArray, hl2]; kernel_rfl) hcs.all ?_
        exact hK.out undef _ ⟨HQ.out wq cs hbw (hcs.mono fun b hb _ => by have := HGL.out; omega), (HML.out.on hbw).far (setCells_kept g cs wq (i * 2)) HG.out (Nat.le_trans HWS.out.1 HG.out)⟩ _ rfl
      case afin =>
        intro wq
        intro x9 h9 x16 h16 x17 h17 x19 h19
        try simp only [FinAll]
        simp only [Act.put, List.setIfInBounds_toArray, List.set_cons_zero, List.set_cons_succ]
        obtain ⟨hN, hM⟩ : RowD wq g j7 106 2 (QE W.heap.size g (i + 1)) (l7.map baseD) ∧ MsgL W w2 wq 39 #[.int .i64 n0, .int .i64 n1, .int .i64 n2, .int .i64 n3, .int .i64 n4, .int .i64 n5, .slice b6 l6.length j6, .slice (some ⟨g, 0, none⟩) l7.length j7, .slice a8 l8.length k8, .slice a9 l9.length k9, .slice a10 l10.length k10, .slice a11 l11.length k11, .slice a12 l12.length k12, .int .i64 n13, .slice a14 l14.length k14] #[.int .i64 0, .int .i64 0, .int .i64 0, .int .i64 0, .int .i64 0, .int .i64 0, .slice none 0 0, .slice none 0 0, .slice none 0 0, .slice none 0 0, .slice none 0 0, .slice none 0 0, .slice none 0 0, .int .i64 0, .slice none 0 0] := h19
        have HN := Lib.hid hN
        have HMN := Lib.hid hM
        clear hN hM h9 h16 h17 HQ HRD HRG HTH HBX HML
        go_wp2
        go_roundg (l7.length - (i + 1))
        case measure => have := HMI.out; have := HLT.out.1; omega
        case rel => exact ⟨i + 1, by have := HLT.out.1; omega, by go_num, RowV.mk (by have := HLT.out.1; simp; omega) HG.out HN.out, HMN.out⟩
    · have hii : ¬ (i : Int) < l7.length := by omega
      have e : i = l7.length := by omega
      have D7 : Hid (ReadsD (fun b => W.heap.size + 2 ≤ b) w5 (.slice b7 l7.length j7) (basesD l7)) := Lib.hid (by
        have h1 := HRV.out.reads (P := fun b => W.heap.size + 2 ≤ b) (fun g hg => Nat.le_trans HWS.out.1 hg) (fun g hg j hj k hk => .inr fun b hb => by unfold QE at hb; rw [if_pos (by rw [e]; simpa using hj)] at hb; have := HWS.out.1; omega)
        unfold basesD; simpa using h1)
      replace D6 := Lib.hid (D6.out.kept HML.out.kept fun b hb e => by omega)
      have HB := Lib.hid HML.out.box
      clear HRV HML HWS e hi hlt HMI
      have q0 := (HB.out.at (i := 8) rfl).1
      have HCL := Lib.hid (commands_any _ l8 w5 (H8.out.on HB.out.bel))
      go_wp2_with fail
      refine HCL.out.mono ?_
      rintro e w6 ⟨v, rfl, hb, hv⟩
      have HV := Lib.hid (hv.mono (P' := fun b => W.heap.size + 2 ≤ b) fun b hb _ => Nat.le_trans HB.out.sz hb)
      obtain ⟨b8, j8, rfl, -⟩ := ReadsD.slcM (f := cmdD) hv
      have HX := Lib.hid (HB.out.on hb)
      replace D6 := Lib.hid (D6.out.on hb)
      replace D7 := Lib.hid (D7.out.on hb)
      obtain ⟨d0, f0, l0⟩ := HX.out.at (i := 8) rfl
      clear q0 HCL hb hv HB
      go_upto_region 9 with fail
      have HB : Hid (BoxS W (World.setCell w6 ⟨W.heap.size, 8, none⟩ (.slice b8 l8.length j8)) 39 #[.int .i64 n0, .int .i64 n1, .int .i64 n2, .int .i64 n3, .int .i64 n4, .int .i64 n5, .slice b6 l6.length j6, .slice b7 l7.length j7, .slice b8 l8.length j8, .slice a9 l9.length k9, .slice a10 l10.length k10, .slice a11 l11.length k11, .slice a12 l12.length k12, .int .i64 n13, .slice a14 l14.length k14] #[.int .i64 0, .int .i64 0, .int .i64 0, .int .i64 0, .int .i64 0, .int .i64 0, .slice none 0 0, .slice none 0 0, .slice none 0 0, .slice none 0 0, .slice none 0 0, .slice none 0 0, .slice none 0 0, .int .i64 0, .slice none 0 0]) := Lib.hid (HX.out.set 8 _)
      replace D6 := Lib.hid (D6.out.setc (g := W.heap.size) (i := 8) (u := .slice b8 l8.length j8) (by omega))
      replace D7 := Lib.hid (D7.out.setc (g := W.heap.size) (i := 8) (u := .slice b8 l8.length j8) (by omega))
      have D8 := Lib.hid (HV.out.setc (g := W.heap.size) (i := 8) (u := .slice b8 l8.length j8) (by omega))
      generalize hw : World.setCell w6 _ _ = w7 at *
      clear hw HX HV d0 f0 l0
      have q0 := (HB.out.at (i := 9) rfl).1
      have HCL := Lib.hid (acks_any _ l9 w7 (H9.out.on HB.out.bel))
      go_wp2_with fail
      refine HCL.out.mono ?_
      rintro e w8 ⟨v, rfl, hb, hv⟩
      have HV := Lib.hid (hv.mono (P' := fun b => W.heap.size + 2 ≤ b) fun b hb _ => Nat.le_trans HB.out.sz hb)
      obtain ⟨b9, j9, rfl, -⟩ := ReadsD.slcM (f := ackD) hv
      have HX := Lib.hid (HB.out.on hb)
      replace D6 := Lib.hid (D6.out.on hb)
      replace D7 := Lib.hid (D7.out.on hb)
      replace D8 := Lib.hid (D8.out.on hb)
      obtain ⟨d0, f0, l0⟩ := HX.out.at (i := 9) rfl
      clear q0 HCL hb hv HB
      go_upto_region 10 with fail
      have HB : Hid (BoxS W (World.setCell w8 ⟨W.heap.size, 9, none⟩ (.slice b9 l9.length j9)) 39 #[.int .i64 n0, .int .i64 n1, .int .i64 n2, .int .i64 n3, .int .i64 n4, .int .i64 n5, .slice b6 l6.length j6, .slice b7 l7.length j7, .slice b8 l8.length j8, .slice b9 l9.length j9, .slice a10 l10.length k10, .slice a11 l11.length k11, .slice a12 l12.length k12, .int .i64 n13, .slice a14 l14.length k14] #[.int .i64 0, .int .i64 0, .int .i64 0, .int .i64 0, .int .i64 0, .int .i64 0, .slice none 0 0, .slice none 0 0, .slice none 0 0, .slice none 0 0, .slice none 0 0, .slice none 0 0, .slice none 0 0, .int .i64 0, .slice none 0 0]) := Lib.hid (HX.out.set 9 _)
      replace D6 := Lib.hid (D6.out.setc (g := W.heap.size) (i := 9) (u := .slice b9 l9.length j9) (by omega))
      replace D7 := Lib.hid (D7.out.setc (g := W.heap.size) (i := 9) (u := .slice b9 l9.length j9) (by omega))
      replace D8 := Lib.hid (D8.out.setc (g := W.heap.size) (i := 9) (u := .slice b9 l9.length j9) (by omega))
      have D9 := Lib.hid (HV.out.setc (g := W.heap.size) (i := 9) (u := .slice b9 l9.length j9) (by omega))
      generalize hw : World.setCell w8 _ _ = w9 at *
      clear hw HX HV d0 f0 l0
      have q0 := (HB.out.at (i := 10) rfl).1
      have HCL := Lib.hid (proof_clone _ (l10.map proofD) w9 ((H10.out.lt.mono (P' := fun b => b < W.heap.size) fun b hb _ => hb.2).on HB.out.bel))
      go_wp2_with fail
      refine HCL.out.mono ?_
      rintro e w10 ⟨v, rfl, hcl⟩
      obtain ⟨hb, hL, b10, j10, rfl, hrv⟩ := hcl.rowv
      rw [List.length_map] at hL ⊢
      have HRV := Lib.hid hrv
      have HX := Lib.hid (HB.out.on hb)
      have HWS := Lib.hid (And.intro HB.out.sz hb)
      obtain ⟨d0, f0, l0⟩ := HX.out.at (i := 10) rfl
      clear q0 HCL hb hrv hcl HB
      go_upto_region 11 with fail
      have HM : Hid (MsgL W w9 (World.setCell w10 ⟨W.heap.size, 10, none⟩ (.slice b10 l10.length j10)) 39 #[.int .i64 n0, .int .i64 n1, .int .i64 n2, .int .i64 n3, .int .i64 n4, .int .i64 n5, .slice b6 l6.length j6, .slice b7 l7.length j7, .slice b8 l8.length j8, .slice b9 l9.length j9, .slice b10 l10.length j10, .slice a11 l11.length k11, .slice a12 l12.length k12, .int .i64 n13, .slice a14 l14.length k14] #[.int .i64 0, .int .i64 0, .int .i64 0, .int .i64 0, .int .i64 0, .int .i64 0, .slice none 0 0, .slice none 0 0, .slice none 0 0, .slice none 0 0, .slice none 0 0, .slice none 0 0, .slice none 0 0, .int .i64 0, .slice none 0 0]) := Lib.hid ⟨HX.out.set 10 _, (Kept.of HWS.out.2).trans (Kept.set _ rfl)⟩
      have HR : Hid (RowV w9.heap.size (World.setCell w10 ⟨W.heap.size, 10, none⟩ (.slice b10 l10.length j10)) b10 j10 92 10 (fun _ _ _ b => b < W.heap.size) (l10.map proofD)) := Lib.hid (HRV.out.kept (S := fun b => b = W.heap.size) (Kept.set _ rfl) (fun g hg e => by have := HWS.out.1; omega) fun g j i b hg hb _ e => by omega)
      generalize hw : World.setCell w10 _ _ = w11 at *
      clear hw HX HRV d0 f0 l0
      have q0 := (HM.out.box.at (i := 10) rfl).1
      go_wp2
      clear q0
      go_loopg [4, 57] l10.length (fun m _  ix wr => ∃ i : Nat, m + i = l10.length ∧ ix = .int .i64 i ∧ RowV w9.heap.size wr b10 j10 92 10 (fun g => QE W.heap.size g i) (l10.map proofD) ∧ MsgL W w9 wr 39 #[.int .i64 n0, .int .i64 n1, .int .i64 n2, .int .i64 n3, .int .i64 n4, .int .i64 n5, .slice b6 l6.length j6, .slice b7 l7.length j7, .slice b8 l8.length j8, .slice b9 l9.length j9, .slice b10 l10.length j10, .slice a11 l11.length k11, .slice a12 l12.length k12, .int .i64 n13, .slice a14 l14.length k14] #[.int .i64 0, .int .i64 0, .int .i64 0, .int .i64 0, .int .i64 0, .int .i64 0, .slice none 0 0, .slice none 0 0, .slice none 0 0, .slice none 0 0, .slice none 0 0, .slice none 0 0, .slice none 0 0, .int .i64 0, .slice none 0 0])
      case atStart => exact ⟨0, by omega, rfl, HR.out.mono (fun g j k b _ hb _ => by unfold QE; rw [if_neg (by omega)]; exact hb), HM.out⟩
      case round =>
        clear HR HM
        rename World => w12
        obtain ⟨i, hmi, rfl, hrv, hml⟩ := hrel
        have HMI := Lib.hid hmi
        have HRV := Lib.hid hrv
        have HML := Lib.hid hml
        have hi : i ≤ l10.length := by omega
        have hi0 : (0 : Int) ≤ (i : Int) := by omega
        clear hmi hrv hml
        by_cases hlt : i < l10.length
        · have hii : (i : Int) < l10.length := by omega
          have HLT := Lib.hid (And.intro hlt trivial)
          have q1 : i < (l10.map proofD).length := by simpa using hlt
          have q3 : (l10.map proofD)[i] = proofD l10[i] := List.getElem_map ..
          obtain ⟨g, e, hg, hrow⟩ := HRV.out.get q1
          subst e
          have HG := Lib.hid hg
          have HROW := Lib.hid hrow
          have HGL := Lib.hid hrow.lt
          clear HRV hg hrow
          obtain ⟨cs, hcl, hrg, hth, -, hrd⟩ := HROW.out.row q1
          rw [q3] at hrd
          have hcd : CellsD (fun b => b < W.heap.size) w12 cs (proofD l10[i]) := ⟨by rw [hcl]; rfl, fun k u d h1 h2 => (hrd k u d h1 h2).mono fun b hb _ => by unfold QE at hb; rw [if_neg (by omega)] at hb; exact hb⟩
          obtain ⟨s0, t0, cs9, rfl, hr0, hr1⟩ := proof_at hcd
          have hl9 : cs9.length = 9 := hr1.1
          have HQ := Lib.hid (fun (w' : World) (cs' : List Value) (hb : Below w12.heap.size w12 w') (hv : CellsD (fun b => g < b) w' cs' (proofD l10[i])) => (HROW.out.on hb).putRow (Q' := QE W.heap.size g (i + 1)) q1 (by rw [q3]; exact hv) (Nat.lt_irrefl g) (QE.not (by have := HG.out; have := HWS.out.1; omega)) fun _ _ _ h => QE.step h)
          have HRD := Lib.hid (And.intro hr0 hr1)
          have HRG := Lib.hid (fun (wq : World) (hq : Below w12.heap.size w12 wq) => And.intro (show wq.cell? ⟨g, i * 10, none⟩ = _ from hrg wq hq 0 _ rfl) (show wq.rangeAt g (i * 10 + 1) cs9 from fun q u hu => by rw [Nat.add_assoc, Nat.add_comm 1 q]; exact hrg wq hq (q + 1) u (by simpa using hu)))
          have HTH := Lib.hid hth
          have HL9 := Lib.hid hl9
          have HBX := Lib.hid (fun (wq : World) (hq : Below w12.heap.size w12 wq) => ((HML.out.box.on hq).at (i := 10) rfl).1)
          clear hcl hrg hth hrd hcd q3 hr0 hr1 HROW hl9
          generalize l10[i] = x at *
          clear q1 hlt
          go_upto_region 14 with fail
          refine region_loud [.is (.pointer (some ⟨W.heap.size, 10, none⟩)), .is (.slice (some ⟨g, 0, none⟩) l10.length j10), .is (.int .i64 (i : Int)), .is (.pointer (some ⟨W.heap.size, 10, none⟩)), .is (.slice (some ⟨g, 0, none⟩) l10.length j10), .is (.int .i64 (i : Int)), .is (.pointer (some ⟨g, i * 10, none⟩)), .is (.pointer (some ⟨g, i * 10, none⟩)), .is (.slice s0 x.steps.length t0), leftL w12.heap.size 9 certD x.steps, .is (.pointer (some ⟨W.heap.size, 10, none⟩)), .is (.slice (some ⟨g, 0, none⟩) l10.length j10), .is (.int .i64 (i : Int)), .is (.pointer (some ⟨g, i * 10, none⟩)), .is (.pointer (some ⟨g, i * 10 + 1, none⟩)), .is (.agg cs9.toArray), leftA w12.heap.size (certD x.last), leftA w12.heap.size (proofD x), .is (.pointer (some ⟨g, i * 10, none⟩))] [] (leftRow W w9 39 #[.int .i64 n0, .int .i64 n1, .int .i64 n2, .int .i64 n3, .int .i64 n4, .int .i64 n5, .slice b6 l6.length j6, .slice b7 l7.length j7, .slice b8 l8.length j8, .slice b9 l9.length j9, .slice (some ⟨g, 0, none⟩) l10.length j10, .slice a11 l11.length k11, .slice a12 l12.length k12, .int .i64 n13, .slice a14 l14.length k14] #[.int .i64 0, .int .i64 0, .int .i64 0, .int .i64 0, .int .i64 0, .int .i64 0, .slice none 0 0, .slice none 0 0, .slice none 0 0, .slice none 0 0, .slice none 0 0, .slice none 0 0, .slice none 0 0, .int .i64 0, .slice none 0 0] g j10 92 10 (QE W.heap.size g (i + 1)) (l10.map proofD)) 19 rfl _ rfl (by kernel_rfl) rfl (by kernel_rfl) (by kernel_rfl) (by kernel_rfl) (by kernel_rfl) (.cons ?b0 (.cons ?b1 (.cons ?b2 (.cons ?b3 (.cons ?b4 (.cons ?b5 (.cons ?b6 (.cons ?b7 (.cons ?b8 (.cons ?b9 (.cons ?b10 (.cons ?b11 (.cons ?b12 (.cons ?b13 (.cons ?b14 (.cons ?b15 (.cons ?b16 (.cons ?b17 (.cons ?b18 .nil))))))))))))))))))) ?b19 (.nil) ?bfin
          case b0 =>
            intro wq hbw st  K hK
            simp only [Act.put, List.setIfInBounds_toArray, List.set_cons_zero, List.set_cons_succ] at hK ⊢
            unfold opStep
            rw [if_pos (by rfl)]
            go_simp
            exact hK.out _ _ (Below.refl _ _) rfl _ rfl
          case b1 =>
            intro wq hbw st  K hK
            simp only [Act.put, List.setIfInBounds_toArray, List.set_cons_zero, List.set_cons_succ] at hK ⊢
            unfold opStep
            rw [if_pos (by rfl)]
            have d0 := HBX.out wq hbw
            go_simp
            exact hK.out _ _ (Below.refl _ _) rfl _ rfl
          case b2 =>
            intro wq hbw st  K hK
            simp only [Act.put, List.setIfInBounds_toArray, List.set_cons_zero, List.set_cons_succ] at hK ⊢
            unfold opStep
            rw [if_pos (by rfl)]
            go_simp
            exact hK.out _ _ (Below.refl _ _) rfl _ rfl
          case b3 =>
            intro wq hbw st  K hK
            simp only [Act.put, List.setIfInBounds_toArray, List.set_cons_zero, List.set_cons_succ] at hK ⊢
            unfold opStep
            rw [if_pos (by rfl)]
            go_simp
            exact hK.out _ _ (Below.refl _ _) rfl _ rfl
          case b4 =>
            intro wq hbw st  K hK
            simp only [Act.put, List.setIfInBounds_toArray, List.set_cons_zero, List.set_cons_succ] at hK ⊢
            unfold opStep
            rw [if_pos (by rfl)]
            have d0 := HBX.out wq hbw
            go_simp
            exact hK.out _ _ (Below.refl _ _) rfl _ rfl
          case b5 =>
            intro wq hbw st  K hK
            simp only [Act.put, List.setIfInBounds_toArray, List.set_cons_zero, List.set_cons_succ] at hK ⊢
            unfold opStep
            rw [if_pos (by rfl)]
            go_simp
            exact hK.out _ _ (Below.refl _ _) rfl _ rfl
          case b6 =>
            intro wq hbw st  K hK
            simp only [Act.put, List.setIfInBounds_toArray, List.set_cons_zero, List.set_cons_succ] at hK ⊢
            unfold opStep
            rw [if_pos (by rfl)]
            go_simp
            exact hK.out _ _ (Below.refl _ _) rfl _ rfl
          case b7 =>
            intro wq hbw st  K hK
            simp only [Act.put, List.setIfInBounds_toArray, List.set_cons_zero, List.set_cons_succ] at hK ⊢
            unfold opStep
            rw [if_pos (by rfl)]
            go_simp
            exact hK.out _ _ (Below.refl _ _) rfl _ rfl
          case b8 =>
            intro wq hbw st  K hK
            simp only [Act.put, List.setIfInBounds_toArray, List.set_cons_zero, List.set_cons_succ] at hK ⊢
            unfold opStep
            rw [if_pos (by rfl)]
            have d0 := (HRG.out wq hbw).1
            go_simp
            exact hK.out _ _ (Below.refl _ _) rfl _ rfl
          case b9 =>
            intro wq hbw st  K hK
            simp only [Act.put, List.setIfInBounds_toArray, List.set_cons_zero, List.set_cons_succ] at hK ⊢
            unfold opStep
            rw [if_pos (by rfl)]
            go_simp
            refine (certificates_any (.slice s0 x.steps.length t0) x.steps wq (HRD.out.1.on hbw)).mono ?_
            rintro e wz ⟨vz, rfl, hbz, hvz⟩
            obtain ⟨az, kz, rfl, -⟩ := ReadsD.slcM (f := certD) hvz
            go_simp
            exact hK.out _ _ hbz ⟨az, kz, rfl, hvz.mono fun b hb _ => Nat.le_trans hbw.size hb⟩ _ rfl
          case b10 =>
            intro wq hbw st  K hK
            simp only [Act.put, List.setIfInBounds_toArray, List.set_cons_zero, List.set_cons_succ] at hK ⊢
            unfold opStep
            rw [if_pos (by rfl)]
            go_simp
            exact hK.out _ _ (Below.refl _ _) rfl _ rfl
          case b11 =>
            intro wq hbw st  K hK
            simp only [Act.put, List.setIfInBounds_toArray, List.set_cons_zero, List.set_cons_succ] at hK ⊢
            unfold opStep
            rw [if_pos (by rfl)]
            have d0 := HBX.out wq hbw
            go_simp
            exact hK.out _ _ (Below.refl _ _) rfl _ rfl
          case b12 =>
            intro wq hbw st  K hK
            simp only [Act.put, List.setIfInBounds_toArray, List.set_cons_zero, List.set_cons_succ] at hK ⊢
            unfold opStep
            rw [if_pos (by rfl)]
            go_simp
            exact hK.out _ _ (Below.refl _ _) rfl _ rfl
          case b13 =>
            intro wq hbw st  K hK
            simp only [Act.put, List.setIfInBounds_toArray, List.set_cons_zero, List.set_cons_succ] at hK ⊢
            unfold opStep
            rw [if_pos (by rfl)]
            go_simp
            exact hK.out _ _ (Below.refl _ _) rfl _ rfl
          case b14 =>
            intro wq hbw st  K hK
            simp only [Act.put, List.setIfInBounds_toArray, List.set_cons_zero, List.set_cons_succ] at hK ⊢
            unfold opStep
            rw [if_pos (by rfl)]
            go_simp
            exact hK.out _ _ (Below.refl _ _) rfl _ rfl
          case b15 =>
            intro wq hbw st  K hK
            simp only [Act.put, List.setIfInBounds_toArray, List.set_cons_zero, List.set_cons_succ] at hK ⊢
            unfold opStep
            rw [if_pos (by rfl)]
            refine wp_load_mid 89 (.tmp 74) (by rfl) g (i * 10 + 1) (by rfl) cs9 _ (HRG.out wq hbw).2 Try.underlying89 (by rfl) (by rw [HL9.out]; kernel_rfl) ?_
            exact hK.out _ _ (Below.refl _ _) rfl _ rfl
          case b16 =>
            intro wq hbw st x9 h9 K hK
            simp only [Act.put, List.setIfInBounds_toArray, List.set_cons_zero, List.set_cons_succ] at hK ⊢
            unfold opStep
            rw [if_pos (by rfl)]
            go_simp
            refine (certificate_any x.last cs9 wq (HRD.out.2.on hbw)).mono ?_
            rintro e wz ⟨cz, rfl, hbz, hvz⟩
            go_simp
            exact hK.out _ _ hbz ⟨cz, rfl, hvz.mono fun b hb _ => Nat.le_trans hbw.size hb⟩ _ rfl
          case b17 =>
            intro wq hbw st x9 h9 x16 h16 K hK
            simp only [Act.put, List.setIfInBounds_toArray, List.set_cons_zero, List.set_cons_succ] at hK ⊢
            unfold opStep
            rw [if_pos (by rfl)]
            obtain ⟨a9, b9, rfl, h9⟩ : ∃ a k, x9 = .slice a x.steps.length k ∧ ReadsD (fun b => w12.heap.size ≤ b) wq x9 (certsD x.steps) := h9
            obtain ⟨cs16, rfl, h16⟩ : ∃ cs : List Value, x16 = .agg cs.toArray ∧ CellsD (fun b => w12.heap.size ≤ b) wq cs (certD x.last) := h16
            obtain ⟨c0, c1, c2, c3, c4, c5, c6, c7, c8, rfl⟩ := nine_of h16.1
            go_simp
            exact hK.out _ _ (Below.refl _ _) ⟨.slice a9 x.steps.length b9 :: [c0, c1, c2, c3, c4, c5, c6, c7, c8], rfl, .mk h9 h16⟩ _ rfl
          case b18 =>
            intro wq hbw st x9 h9 x16 h16 x17 h17 K hK
            simp only [Act.put, List.setIfInBounds_toArray, List.set_cons_zero, List.set_cons_succ] at hK ⊢
            unfold opStep
            rw [if_pos (by rfl)]
            go_simp
            exact hK.out _ _ (Below.refl _ _) rfl _ rfl
          case b19 =>
            intro wq hbw st x9 h9 x16 h16 x17 h17 K hK
            simp only [Act.put, List.setIfInBounds_toArray, List.set_cons_zero, List.set_cons_succ] at hK ⊢
            unfold opStep
            rw [if_pos (by rfl)]
            obtain ⟨cs, rfl, hcs⟩ : ∃ cs : List Value, x17 = .agg cs.toArray ∧ CellsD (fun b => w12.heap.size ≤ b) wq cs (proofD x) := h17
            have hl2 : cs.length = 10 := hcs.1
            refine wp_store_mid 92 (.tmp 78) (.tmp 77) (by rfl) g (i * 10) cs.toArray (by rfl) (by rfl) (by rw [List.size_toArray, hl2]; exact HTH.out wq hbw) (by rw [List.size_toArray, hl2]; kernel_rfl) hcs.all ?_
            exact hK.out undef _ ⟨HQ.out wq cs hbw (hcs.mono fun b hb _ => by have := HGL.out; omega), (HML.out.on hbw).far (setCells_kept g cs wq (i * 10)) HG.out (Nat.le_trans HWS.out.1 HG.out)⟩ _ rfl
          case bfin =>
            intro wq
            intro x9 h9 x16 h16 x17 h17 x19 h19
            try simp only [FinAll]
            simp only [Act.put, List.setIfInBounds_toArray, List.set_cons_zero, List.set_cons_succ]
            obtain ⟨hN, hM⟩ : RowD wq g j10 92 10 (QE W.heap.size g (i + 1)) (l10.map proofD) ∧ MsgL W w9 wq 39 #[.int .i64 n0, .int .i64 n1, .int .i64 n2, .int .i64 n3, .int .i64 n4, .int .i64 n5, .slice b6 l6.length j6, .slice b7 l7.length j7, .slice b8 l8.length j8, .slice b9 l9.length j9, .slice (some ⟨g, 0, none⟩) l10.length j10, .slice a11 l11.length k11, .slice a12 l12.length k12, .int .i64 n13, .slice a14 l14.length k14] #[.int .i64 0, .int .i64 0, .int .i64 0, .int .i64 0, .int .i64 0, .int .i64 0, .slice none 0 0, .slice none 0 0, .slice none 0 0, .slice none 0 0, .slice none 0 0, .slice none 0 0, .slice none 0 0, .int .i64 0, .slice none 0 0] := h19
            have HN := Lib.hid hN
            have HMN := Lib.hid hM
            clear hN hM h9 h16 h17 HQ HRD HRG HTH HBX HML
            go_wp2
            go_roundg (l10.length - (i + 1))
            case measure => have := HMI.out; have := HLT.out.1; omega
            case rel => exact ⟨i + 1, by have := HLT.out.1; omega, by go_num, RowV.mk (by have := HLT.out.1; simp; omega) HG.out HN.out, HMN.out⟩
        · have hii : ¬ (i : Int) < l10.length := by omega
          have e : i = l10.length := by omega
          have D10 : Hid (ReadsD (fun b => W.heap.size + 2 ≤ b) w12 (.slice b10 l10.length j10) (proofsD l10)) := Lib.hid (by
            have h1 := HRV.out.reads (P := fun b => W.heap.size + 2 ≤ b) (fun g hg => Nat.le_trans HWS.out.1 hg) (fun g hg j hj k hk => .inr fun b hb => by unfold QE at hb; rw [if_pos (by rw [e]; simpa using hj)] at hb; have := HWS.out.1; omega)
            unfold proofsD; simpa using h1)
          replace D6 := Lib.hid (D6.out.kept HML.out.kept fun b hb e => by omega)
          replace D7 := Lib.hid (D7.out.kept HML.out.kept fun b hb e => by omega)
          replace D8 := Lib.hid (D8.out.kept HML.out.kept fun b hb e => by omega)
          replace D9 := Lib.hid (D9.out.kept HML.out.kept fun b hb e => by omega)
          have HB := Lib.hid HML.out.box
          clear HRV HML HWS e hi hlt HMI
          have q0 := (HB.out.at (i := 11) rfl).1
          have HCL := Lib.hid (dig_clone _ (l11.map digD) w12 ((H11.out.lt.mono (P' := fun b => b < W.heap.size) fun b hb _ => hb.2).on HB.out.bel))
          go_wp2_with fail
          refine HCL.out.mono ?_
          rintro e w13 ⟨v, rfl, hcl⟩
          obtain ⟨hb, hL, b11, j11, rfl, hrv⟩ := hcl.rowv
          rw [List.length_map] at hL ⊢
          have HRV := Lib.hid hrv
          have HX := Lib.hid (HB.out.on hb)
          have HWS := Lib.hid (And.intro HB.out.sz hb)
          obtain ⟨d0, f0, l0⟩ := HX.out.at (i := 11) rfl
          clear q0 HCL hb hrv hcl HB
          go_upto_region 17 with fail
          have HM : Hid (MsgL W w12 (World.setCell w13 ⟨W.heap.size, 11, none⟩ (.slice b11 l11.length j11)) 39 #[.int .i64 n0, .int .i64 n1, .int .i64 n2, .int .i64 n3, .int .i64 n4, .int .i64 n5, .slice b6 l6.length j6, .slice b7 l7.length j7, .slice b8 l8.length j8, .slice b9 l9.length j9, .slice b10 l10.length j10, .slice b11 l11.length j11, .slice a12 l12.length k12, .int .i64 n13, .slice a14 l14.length k14] #[.int .i64 0, .int .i64 0, .int .i64 0, .int .i64 0, .int .i64 0, .int .i64 0, .slice none 0 0, .slice none 0 0, .slice none 0 0, .slice none 0 0, .slice none 0 0, .slice none 0 0, .slice none 0 0, .int .i64 0, .slice none 0 0]) := Lib.hid ⟨HX.out.set 11 _, (Kept.of HWS.out.2).trans (Kept.set _ rfl)⟩
          have HR : Hid (RowV w12.heap.size (World.setCell w13 ⟨W.heap.size, 11, none⟩ (.slice b11 l11.length j11)) b11 j11 110 3 (fun _ _ _ b => b < W.heap.size) (l11.map digD)) := Lib.hid (HRV.out.kept (S := fun b => b = W.heap.size) (Kept.set _ rfl) (fun g hg e => by have := HWS.out.1; omega) fun g j i b hg hb _ e => by omega)
          generalize hw : World.setCell w13 _ _ = w14 at *
          clear hw HX HRV d0 f0 l0
          have q0 := (HM.out.box.at (i := 11) rfl).1
          go_wp2
          clear q0
          go_loopg [5, 87] l11.length (fun m _  ix wr => ∃ i : Nat, m + i = l11.length ∧ ix = .int .i64 i ∧ RowV w12.heap.size wr b11 j11 110 3 (fun g => QD W.heap.size g i) (l11.map digD) ∧ MsgL W w12 wr 39 #[.int .i64 n0, .int .i64 n1, .int .i64 n2, .int .i64 n3, .int .i64 n4, .int .i64 n5, .slice b6 l6.length j6, .slice b7 l7.length j7, .slice b8 l8.length j8, .slice b9 l9.length j9, .slice b10 l10.length j10, .slice b11 l11.length j11, .slice a12 l12.length k12, .int .i64 n13, .slice a14 l14.length k14] #[.int .i64 0, .int .i64 0, .int .i64 0, .int .i64 0, .int .i64 0, .int .i64 0, .slice none 0 0, .slice none 0 0, .slice none 0 0, .slice none 0 0, .slice none 0 0, .slice none 0 0, .slice none 0 0, .int .i64 0, .slice none 0 0])
          case atStart => exact ⟨0, by omega, rfl, HR.out.mono (fun g j k b _ hb _ => by unfold QD; rw [if_neg (by omega)]; exact hb), HM.out⟩
          case round =>
            clear HR HM
            rename World => w15
            obtain ⟨i, hmi, rfl, hrv, hml⟩ := hrel
            have HMI := Lib.hid hmi
            have HRV := Lib.hid hrv
            have HML := Lib.hid hml
            have hi : i ≤ l11.length := by omega
            have hi0 : (0 : Int) ≤ (i : Int) := by omega
            clear hmi hrv hml
            by_cases hlt : i < l11.length
            · have hii : (i : Int) < l11.length := by omega
              have HLT := Lib.hid (And.intro hlt trivial)
              have q1 : i < (l11.map digD).length := by simpa using hlt
              have q3 : (l11.map digD)[i] = digD l11[i] := List.getElem_map ..
              obtain ⟨g, e, hg, hrow⟩ := HRV.out.get q1
              subst e
              have HG := Lib.hid hg
              have HROW := Lib.hid hrow
              have HGL := Lib.hid hrow.lt
              clear HRV hg hrow
              clear q3
              obtain ⟨p1, p2, p3⟩ := dig_at0 l11 HLT.out.1
              obtain ⟨u, hcell, hfz, hrd⟩ := HROW.out.cell p1 p2
              rw [← p3] at hrd
              have hrd2 : ReadsD (fun b => b < W.heap.size) w15 u (bytesD l11[i].pre) := hrd.mono fun b hb _ => by unfold QD at hb; rw [if_neg (by omega)] at hb; exact hb
              obtain ⟨ua, uc, rfl, -⟩ := hrd2.bslc
              have HQ := Lib.hid (fun (w' : World) (v' : Value) (hb : Below w15.heap.size w15 w') (hv : ReadsD (fun b => g < b) w' v' (bytesD l11[i].pre)) => ((HROW.out.on hb).put (Q' := fun j k b => if j = i ∧ k = 0 then g < b else QD W.heap.size g i j k b) p1 p2 p3 hv (Nat.lt_irrefl g) (fun j k => by have := HG.out; have := HWS.out.1; unfold QD; split <;> omega) (fun _ _ _ => Iff.rfl)).mono (Q' := QD1 W.heap.size g i) fun j k b hb _ => by unfold QD at *; unfold QD1; split at hb <;> split <;> (try split at hb) <;> omega)
              have HRD := Lib.hid hrd2
              have HCE := Lib.hid hcell
              have HFR := Lib.hid (fun (wq : World) (hq : Below w15.heap.size w15 wq) => frozen_on HROW.out hq (i * 3 + 0))
              have HBX := Lib.hid (fun (wq : World) (hq : Below w15.heap.size w15 wq) => ((HML.out.box.on hq).at (i := 11) rfl).1)
              clear hcell hfz hrd hrd2 p3 HROW
              generalize hyy : l11[i].pre = y at *
              clear hyy p1 p2
              go_upto_region 20 with fail
              refine region_loud [.is (.pointer (some ⟨W.heap.size, 11, none⟩)), .is (.slice (some ⟨g, 0, none⟩) l11.length j11), .is (.int .i64 (i : Int)), .is (.pointer (some ⟨W.heap.size, 11, none⟩)), .is (.slice (some ⟨g, 0, none⟩) l11.length j11), .is (.int .i64 (i : Int)), .is (.pointer (some ⟨g, i * 3, none⟩)), .is (.pointer (some ⟨g, i * 3, none⟩)), .is (.slice ua y.length uc), leftD w15.heap.size (bytesD y), .is (.pointer (some ⟨g, i * 3, none⟩)), .is (.pointer (some ⟨g, i * 3, none⟩))] [] (leftRow W w12 39 #[.int .i64 n0, .int .i64 n1, .int .i64 n2, .int .i64 n3, .int .i64 n4, .int .i64 n5, .slice b6 l6.length j6, .slice b7 l7.length j7, .slice b8 l8.length j8, .slice b9 l9.length j9, .slice b10 l10.length j10, .slice (some ⟨g, 0, none⟩) l11.length j11, .slice a12 l12.length k12, .int .i64 n13, .slice a14 l14.length k14] #[.int .i64 0, .int .i64 0, .int .i64 0, .int .i64 0, .int .i64 0, .int .i64 0, .slice none 0 0, .slice none 0 0, .slice none 0 0, .slice none 0 0, .slice none 0 0, .slice none 0 0, .slice none 0 0, .int .i64 0, .slice none 0 0] g j11 110 3 (QD1 W.heap.size g i) (l11.map digD)) 12 rfl _ rfl (by kernel_rfl) rfl (by kernel_rfl) (by kernel_rfl) (by kernel_rfl) (by kernel_rfl) (.cons ?d0 (.cons ?d1 (.cons ?d2 (.cons ?d3 (.cons ?d4 (.cons ?d5 (.cons ?d6 (.cons ?d7 (.cons ?d8 (.cons ?d9 (.cons ?d10 (.cons ?d11 .nil)))))))))))) ?d12 (.nil) ?dfin
              case d0 =>
                intro wq hbw st  K hK
                simp only [Act.put, List.setIfInBounds_toArray, List.set_cons_zero, List.set_cons_succ] at hK ⊢
                unfold opStep
                rw [if_pos (by rfl)]
                go_simp
                exact hK.out _ _ (Below.refl _ _) rfl _ rfl
              case d1 =>
                intro wq hbw st  K hK
                simp only [Act.put, List.setIfInBounds_toArray, List.set_cons_zero, List.set_cons_succ] at hK ⊢
                unfold opStep
                rw [if_pos (by rfl)]
                have d0 := HBX.out wq hbw
                go_simp
                exact hK.out _ _ (Below.refl _ _) rfl _ rfl
              case d2 =>
                intro wq hbw st  K hK
                simp only [Act.put, List.setIfInBounds_toArray, List.set_cons_zero, List.set_cons_succ] at hK ⊢
                unfold opStep
                rw [if_pos (by rfl)]
                go_simp
                exact hK.out _ _ (Below.refl _ _) rfl _ rfl
              case d3 =>
                intro wq hbw st  K hK
                simp only [Act.put, List.setIfInBounds_toArray, List.set_cons_zero, List.set_cons_succ] at hK ⊢
                unfold opStep
                rw [if_pos (by rfl)]
                go_simp
                exact hK.out _ _ (Below.refl _ _) rfl _ rfl
              case d4 =>
                intro wq hbw st  K hK
                simp only [Act.put, List.setIfInBounds_toArray, List.set_cons_zero, List.set_cons_succ] at hK ⊢
                unfold opStep
                rw [if_pos (by rfl)]
                have d0 := HBX.out wq hbw
                go_simp
                exact hK.out _ _ (Below.refl _ _) rfl _ rfl
              case d5 =>
                intro wq hbw st  K hK
                simp only [Act.put, List.setIfInBounds_toArray, List.set_cons_zero, List.set_cons_succ] at hK ⊢
                unfold opStep
                rw [if_pos (by rfl)]
                go_simp
                exact hK.out _ _ (Below.refl _ _) rfl _ rfl
              case d6 =>
                intro wq hbw st  K hK
                simp only [Act.put, List.setIfInBounds_toArray, List.set_cons_zero, List.set_cons_succ] at hK ⊢
                unfold opStep
                rw [if_pos (by rfl)]
                go_simp
                exact hK.out _ _ (Below.refl _ _) rfl _ rfl
              case d7 =>
                intro wq hbw st  K hK
                simp only [Act.put, List.setIfInBounds_toArray, List.set_cons_zero, List.set_cons_succ] at hK ⊢
                unfold opStep
                rw [if_pos (by rfl)]
                go_simp
                exact hK.out _ _ (Below.refl _ _) rfl _ rfl
              case d8 =>
                intro wq hbw st  K hK
                simp only [Act.put, List.setIfInBounds_toArray, List.set_cons_zero, List.set_cons_succ] at hK ⊢
                unfold opStep
                rw [if_pos (by rfl)]
                have d0 := HCE.out wq hbw
                rw [Nat.add_zero] at d0
                go_simp
                exact hK.out _ _ (Below.refl _ _) rfl _ rfl
              case d9 =>
                intro wq hbw st  K hK
                simp only [Act.put, List.setIfInBounds_toArray, List.set_cons_zero, List.set_cons_succ] at hK ⊢
                unfold opStep
                rw [if_pos (by rfl)]
                go_simp
                refine (bytes_any (.slice ua y.length uc) y wq (HRD.out.on hbw)).mono ?_
                rintro e wz ⟨vz, rfl, hbz, hvz⟩
                go_simp
                exact hK.out _ _ hbz (hvz.mono fun b hb _ => Nat.le_trans hbw.size hb) _ rfl
              case d10 =>
                intro wq hbw st x9 h9 K hK
                simp only [Act.put, List.setIfInBounds_toArray, List.set_cons_zero, List.set_cons_succ] at hK ⊢
                unfold opStep
                rw [if_pos (by rfl)]
                go_simp
                exact hK.out _ _ (Below.refl _ _) rfl _ rfl
              case d11 =>
                intro wq hbw st x9 h9 K hK
                simp only [Act.put, List.setIfInBounds_toArray, List.set_cons_zero, List.set_cons_succ] at hK ⊢
                unfold opStep
                rw [if_pos (by rfl)]
                go_simp
                exact hK.out _ _ (Below.refl _ _) rfl _ rfl
              case d12 =>
                intro wq hbw st x9 h9 K hK
                simp only [Act.put, List.setIfInBounds_toArray, List.set_cons_zero, List.set_cons_succ] at hK ⊢
                unfold opStep
                rw [if_pos (by rfl)]
                obtain ⟨oa, oc, rfl, -⟩ := ReadsD.bslc (show ReadsD (fun b => w15.heap.size ≤ b) wq x9 (bytesD y) from h9)
                have c1 := HCE.out wq hbw
                have f1 := HFR.out wq hbw
                rw [Nat.add_zero] at c1 f1
                have l1 : g < wq.heap.size := Nat.lt_of_lt_of_le HGL.out hbw.size
                go_simp
                have HN := HQ.out wq _ hbw (ReadsD.mono h9 fun b hb _ => by have := HGL.out; omega)
                rw [Nat.add_zero] at HN
                have HKS : Kept (fun b => b = g) wq (wq.setCell ⟨g, i * 3, none⟩ (.slice oa y.length oc)) := Kept.set _ rfl
                exact hK.out undef _ ⟨HN, (HML.out.on hbw).far HKS HG.out (Nat.le_trans HWS.out.1 HG.out)⟩ _ rfl
              case dfin =>
                intro wq
                intro x9 h9 x12 h12
                try simp only [FinAll]
                simp only [Act.put, List.setIfInBounds_toArray, List.set_cons_zero, List.set_cons_succ]
                obtain ⟨hN, hM⟩ : RowD wq g j11 110 3 (QD1 W.heap.size g i) (l11.map digD) ∧ MsgL W w12 wq 39 #[.int .i64 n0, .int .i64 n1, .int .i64 n2, .int .i64 n3, .int .i64 n4, .int .i64 n5, .slice b6 l6.length j6, .slice b7 l7.length j7, .slice b8 l8.length j8, .slice b9 l9.length j9, .slice b10 l10.length j10, .slice (some ⟨g, 0, none⟩) l11.length j11, .slice a12 l12.length k12, .int .i64 n13, .slice a14 l14.length k14] #[.int .i64 0, .int .i64 0, .int .i64 0, .int .i64 0, .int .i64 0, .int .i64 0, .slice none 0 0, .slice none 0 0, .slice none 0 0, .slice none 0 0, .slice none 0 0, .slice none 0 0, .slice none 0 0, .int .i64 0, .slice none 0 0] := h12
                have HROW := Lib.hid hN
                replace HML := Lib.hid hM
                replace HGL := Lib.hid hN.lt
                clear hN hM h9 HQ HRD HCE HFR HBX
                rename World => w90
                obtain ⟨p1, p2, p3⟩ := dig_at1 l11 HLT.out.1
                obtain ⟨u, hcell, hfz, hrd⟩ := HROW.out.cell p1 p2
                rw [← p3] at hrd
                have hrd2 : ReadsD (fun b => b < W.heap.size) w90 u (bytesD l11[i].sum) := hrd.mono fun b hb _ => by unfold QD1 at hb; rw [if_neg (by omega)] at hb; exact hb
                obtain ⟨ua, uc, rfl, -⟩ := hrd2.bslc
                have HQ := Lib.hid (fun (w' : World) (v' : Value) (hb : Below w90.heap.size w90 w') (hv : ReadsD (fun b => g < b) w' v' (bytesD l11[i].sum)) => ((HROW.out.on hb).put (Q' := fun j k b => if j = i ∧ k = 1 then g < b else QD1 W.heap.size g i j k b) p1 p2 p3 hv (Nat.lt_irrefl g) (fun j k => by have := HG.out; have := HWS.out.1; unfold QD1; split <;> omega) (fun _ _ _ => Iff.rfl)).mono (Q' := QD W.heap.size g (i + 1)) fun j k b hb _ => by unfold QD1 at *; unfold QD; split at hb <;> split <;> (try split at hb) <;> omega)
                have HRD := Lib.hid hrd2
                have HCE := Lib.hid hcell
                have HFR := Lib.hid (fun (wq : World) (hq : Below w90.heap.size w90 wq) => frozen_on HROW.out hq (i * 3 + 1))
                have HBX := Lib.hid (fun (wq : World) (hq : Below w90.heap.size w90 wq) => ((HML.out.box.on hq).at (i := 11) rfl).1)
                clear hcell hfz hrd hrd2 p3 HROW
                generalize hyy : l11[i].sum = y at *
                clear hyy p1 p2
                go_upto_region 21 with fail
                refine region_loud [.is (.pointer (some ⟨W.heap.size, 11, none⟩)), .is (.slice (some ⟨g, 0, none⟩) l11.length j11), .is (.int .i64 (i : Int)), .is (.pointer (some ⟨W.heap.size, 11, none⟩)), .is (.slice (some ⟨g, 0, none⟩) l11.length j11), .is (.int .i64 (i : Int)), .is (.pointer (some ⟨g, i * 3, none⟩)), .is (.pointer (some ⟨g, i * 3 + 1, none⟩)), .is (.slice ua y.length uc), leftD w90.heap.size (bytesD y), .is (.pointer (some ⟨g, i * 3, none⟩)), .is (.pointer (some ⟨g, i * 3 + 1, none⟩))] [] (leftRow W w12 39 #[.int .i64 n0, .int .i64 n1, .int .i64 n2, .int .i64 n3, .int .i64 n4, .int .i64 n5, .slice b6 l6.length j6, .slice b7 l7.length j7, .slice b8 l8.length j8, .slice b9 l9.length j9, .slice b10 l10.length j10, .slice (some ⟨g, 0, none⟩) l11.length j11, .slice a12 l12.length k12, .int .i64 n13, .slice a14 l14.length k14] #[.int .i64 0, .int .i64 0, .int .i64 0, .int .i64 0, .int .i64 0, .int .i64 0, .slice none 0 0, .slice none 0 0, .slice none 0 0, .slice none 0 0, .slice none 0 0, .slice none 0 0, .slice none 0 0, .int .i64 0, .slice none 0 0] g j11 110 3 (QD W.heap.size g (i + 1)) (l11.map digD)) 12 rfl _ rfl (by kernel_rfl) rfl (by kernel_rfl) (by kernel_rfl) (by kernel_rfl) (by kernel_rfl) (.cons ?e0 (.cons ?e1 (.cons ?e2 (.cons ?e3 (.cons ?e4 (.cons ?e5 (.cons ?e6 (.cons ?e7 (.cons ?e8 (.cons ?e9 (.cons ?e10 (.cons ?e11 .nil)))))))))))) ?e12 (.nil) ?efin
                case e0 =>
                  intro wq hbw st  K hK
                  simp only [Act.put, List.setIfInBounds_toArray, List.set_cons_zero, List.set_cons_succ] at hK ⊢
                  unfold opStep
                  rw [if_pos (by rfl)]
                  go_simp
                  exact hK.out _ _ (Below.refl _ _) rfl _ rfl
                case e1 =>
                  intro wq hbw st  K hK
                  simp only [Act.put, List.setIfInBounds_toArray, List.set_cons_zero, List.set_cons_succ] at hK ⊢
                  unfold opStep
                  rw [if_pos (by rfl)]
                  have d0 := HBX.out wq hbw
                  go_simp
                  exact hK.out _ _ (Below.refl _ _) rfl _ rfl
                case e2 =>
                  intro wq hbw st  K hK
                  simp only [Act.put, List.setIfInBounds_toArray, List.set_cons_zero, List.set_cons_succ] at hK ⊢
                  unfold opStep
                  rw [if_pos (by rfl)]
                  go_simp
                  exact hK.out _ _ (Below.refl _ _) rfl _ rfl
                case e3 =>
                  intro wq hbw st  K hK
                  simp only [Act.put, List.setIfInBounds_toArray, List.set_cons_zero, List.set_cons_succ] at hK ⊢
                  unfold opStep
                  rw [if_pos (by rfl)]
                  go_simp
                  exact hK.out _ _ (Below.refl _ _) rfl _ rfl
                case e4 =>
                  intro wq hbw st  K hK
                  simp only [Act.put, List.setIfInBounds_toArray, List.set_cons_zero, List.set_cons_succ] at hK ⊢
                  unfold opStep
                  rw [if_pos (by rfl)]
                  have d0 := HBX.out wq hbw
                  go_simp
                  exact hK.out _ _ (Below.refl _ _) rfl _ rfl
                case e5 =>
                  intro wq hbw st  K hK
                  simp only [Act.put, List.setIfInBounds_toArray, List.set_cons_zero, List.set_cons_succ] at hK ⊢
                  unfold opStep
                  rw [if_pos (by rfl)]
                  go_simp
                  exact hK.out _ _ (Below.refl _ _) rfl _ rfl
                case e6 =>
                  intro wq hbw st  K hK
                  simp only [Act.put, List.setIfInBounds_toArray, List.set_cons_zero, List.set_cons_succ] at hK ⊢
                  unfold opStep
                  rw [if_pos (by rfl)]
                  go_simp
                  exact hK.out _ _ (Below.refl _ _) rfl _ rfl
                case e7 =>
                  intro wq hbw st  K hK
                  simp only [Act.put, List.setIfInBounds_toArray, List.set_cons_zero, List.set_cons_succ] at hK ⊢
                  unfold opStep
                  rw [if_pos (by rfl)]
                  go_simp
                  exact hK.out _ _ (Below.refl _ _) rfl _ rfl
                case e8 =>
                  intro wq hbw st  K hK
                  simp only [Act.put, List.setIfInBounds_toArray, List.set_cons_zero, List.set_cons_succ] at hK ⊢
                  unfold opStep
                  rw [if_pos (by rfl)]
                  have d0 := HCE.out wq hbw
                  go_simp
                  exact hK.out _ _ (Below.refl _ _) rfl _ rfl
                case e9 =>
                  intro wq hbw st  K hK
                  simp only [Act.put, List.setIfInBounds_toArray, List.set_cons_zero, List.set_cons_succ] at hK ⊢
                  unfold opStep
                  rw [if_pos (by rfl)]
                  go_simp
                  refine (bytes_any (.slice ua y.length uc) y wq (HRD.out.on hbw)).mono ?_
                  rintro e wz ⟨vz, rfl, hbz, hvz⟩
                  go_simp
                  exact hK.out _ _ hbz (hvz.mono fun b hb _ => Nat.le_trans hbw.size hb) _ rfl
                case e10 =>
                  intro wq hbw st x9 h9 K hK
                  simp only [Act.put, List.setIfInBounds_toArray, List.set_cons_zero, List.set_cons_succ] at hK ⊢
                  unfold opStep
                  rw [if_pos (by rfl)]
                  go_simp
                  exact hK.out _ _ (Below.refl _ _) rfl _ rfl
                case e11 =>
                  intro wq hbw st x9 h9 K hK
                  simp only [Act.put, List.setIfInBounds_toArray, List.set_cons_zero, List.set_cons_succ] at hK ⊢
                  unfold opStep
                  rw [if_pos (by rfl)]
                  go_simp
                  exact hK.out _ _ (Below.refl _ _) rfl _ rfl
                case e12 =>
                  intro wq hbw st x9 h9 K hK
                  simp only [Act.put, List.setIfInBounds_toArray, List.set_cons_zero, List.set_cons_succ] at hK ⊢
                  unfold opStep
                  rw [if_pos (by rfl)]
                  obtain ⟨oa, oc, rfl, -⟩ := ReadsD.bslc (show ReadsD (fun b => w90.heap.size ≤ b) wq x9 (bytesD y) from h9)
                  have c1 := HCE.out wq hbw
                  have f1 := HFR.out wq hbw
                  have l1 : g < wq.heap.size := Nat.lt_of_lt_of_le HGL.out hbw.size
                  go_simp
                  have HN := HQ.out wq _ hbw (ReadsD.mono h9 fun b hb _ => by have := HGL.out; omega)
                  have HKS : Kept (fun b => b = g) wq (wq.setCell ⟨g, i * 3 + 1, none⟩ (.slice oa y.length oc)) := Kept.set _ rfl
                  exact hK.out undef _ ⟨HN, (HML.out.on hbw).far HKS HG.out (Nat.le_trans HWS.out.1 HG.out)⟩ _ rfl
                case efin =>
                  intro wq
                  intro x9 h9 x12 h12
                  try simp only [FinAll]
                  simp only [Act.put, List.setIfInBounds_toArray, List.set_cons_zero, List.set_cons_succ]
                  obtain ⟨hN, hM⟩ : RowD wq g j11 110 3 (QD W.heap.size g (i + 1)) (l11.map digD) ∧ MsgL W w12 wq 39 #[.int .i64 n0, .int .i64 n1, .int .i64 n2, .int .i64 n3, .int .i64 n4, .int .i64 n5, .slice b6 l6.length j6, .slice b7 l7.length j7, .slice b8 l8.length j8, .slice b9 l9.length j9, .slice b10 l10.length j10, .slice (some ⟨g, 0, none⟩) l11.length j11, .slice a12 l12.length k12, .int .i64 n13, .slice a14 l14.length k14] #[.int .i64 0, .int .i64 0, .int .i64 0, .int .i64 0, .int .i64 0, .int .i64 0, .slice none 0 0, .slice none 0 0, .slice none 0 0, .slice none 0 0, .slice none 0 0, .slice none 0 0, .slice none 0 0, .int .i64 0, .slice none 0 0] := h12
                  have HROW := Lib.hid hN
                  replace HML := Lib.hid hM
                  replace HGL := Lib.hid hN.lt
                  clear hN hM h9 HQ HRD HCE HFR HBX
                  go_wp2
                  go_roundg (l11.length - (i + 1))
                  case measure => have := HMI.out; have := HLT.out.1; omega
                  case rel => exact ⟨i + 1, by have := HLT.out.1; omega, by go_num, RowV.mk (by have := HLT.out.1; simp; omega) HG.out HROW.out, HML.out⟩
            · have hii : ¬ (i : Int) < l11.length := by omega
              have e : i = l11.length := by omega
              have D11 : Hid (ReadsD (fun b => W.heap.size + 2 ≤ b) w15 (.slice b11 l11.length j11) (digsD l11)) := Lib.hid (by
                have h1 := HRV.out.reads (P := fun b => W.heap.size + 2 ≤ b) (fun g hg => Nat.le_trans HWS.out.1 hg) (fun g hg j hj k hk => dig_done l11 j hj k hk (fun q => by rw [e]; simpa using hj) (fun b hb => by have := HWS.out.1; omega))
                unfold digsD; simpa using h1)
              replace D6 := Lib.hid (D6.out.kept HML.out.kept fun b hb e => by omega)
              replace D7 := Lib.hid (D7.out.kept HML.out.kept fun b hb e => by omega)
              replace D8 := Lib.hid (D8.out.kept HML.out.kept fun b hb e => by omega)
              replace D9 := Lib.hid (D9.out.kept HML.out.kept fun b hb e => by omega)
              replace D10 := Lib.hid (D10.out.kept HML.out.kept fun b hb e => by omega)
              have HB := Lib.hid HML.out.box
              clear HRV HML HWS e hi hlt HMI
              have q0 := (HB.out.at (i := 12) rfl).1
              have HCL := Lib.hid (objs_any _ l12 w15 (H12.out.on HB.out.bel))
              go_wp2_with fail
              refine HCL.out.mono ?_
              rintro e w18 ⟨v, rfl, hb, hv⟩
              have HV := Lib.hid (hv.mono (P' := fun b => W.heap.size + 2 ≤ b) fun b hb _ => Nat.le_trans HB.out.sz hb)
              obtain ⟨b12, j12, rfl, -⟩ := ReadsD.slcM (f := fun s => [sD s]) hv
              have HX := Lib.hid (HB.out.on hb)
              replace D6 := Lib.hid (D6.out.on hb)
              replace D7 := Lib.hid (D7.out.on hb)
              replace D8 := Lib.hid (D8.out.on hb)
              replace D9 := Lib.hid (D9.out.on hb)
              replace D10 := Lib.hid (D10.out.on hb)
              replace D11 := Lib.hid (D11.out.on hb)
              obtain ⟨d0, f0, l0⟩ := HX.out.at (i := 12) rfl
              clear q0 HCL hb hv HB
              go_upto_region 24 with fail
              have HB : Hid (BoxS W (World.setCell w18 ⟨W.heap.size, 12, none⟩ (.slice b12 l12.length j12)) 39 #[.int .i64 n0, .int .i64 n1, .int .i64 n2, .int .i64 n3, .int .i64 n4, .int .i64 n5, .slice b6 l6.length j6, .slice b7 l7.length j7, .slice b8 l8.length j8, .slice b9 l9.length j9, .slice b10 l10.length j10, .slice b11 l11.length j11, .slice b12 l12.length j12, .int .i64 n13, .slice a14 l14.length k14] #[.int .i64 0, .int .i64 0, .int .i64 0, .int .i64 0, .int .i64 0, .int .i64 0, .slice none 0 0, .slice none 0 0, .slice none 0 0, .slice none 0 0, .slice none 0 0, .slice none 0 0, .slice none 0 0, .int .i64 0, .slice none 0 0]) := Lib.hid (HX.out.set 12 _)
              replace D6 := Lib.hid (D6.out.setc (g := W.heap.size) (i := 12) (u := .slice b12 l12.length j12) (by omega))
              replace D7 := Lib.hid (D7.out.setc (g := W.heap.size) (i := 12) (u := .slice b12 l12.length j12) (by omega))
              replace D8 := Lib.hid (D8.out.setc (g := W.heap.size) (i := 12) (u := .slice b12 l12.length j12) (by omega))
              replace D9 := Lib.hid (D9.out.setc (g := W.heap.size) (i := 12) (u := .slice b12 l12.length j12) (by omega))
              replace D10 := Lib.hid (D10.out.setc (g := W.heap.size) (i := 12) (u := .slice b12 l12.length j12) (by omega))
              replace D11 := Lib.hid (D11.out.setc (g := W.heap.size) (i := 12) (u := .slice b12 l12.length j12) (by omega))
              have D12 := Lib.hid (HV.out.setc (g := W.heap.size) (i := 12) (u := .slice b12 l12.length j12) (by omega))
              generalize hw : World.setCell w18 _ _ = w19 at *
              clear hw HX HV d0 f0 l0
              have q0 := (HB.out.at (i := 14) rfl).1
              have HCL := Lib.hid (item_clone _ (l14.map itemD) w19 ((H14.out.lt.mono (P' := fun b => b < W.heap.size) fun b hb _ => hb.2).on HB.out.bel))
              go_wp2_with fail
              refine HCL.out.mono ?_
              rintro e w20 ⟨v, rfl, hcl⟩
              obtain ⟨hb, hL, b14, j14, rfl, hrv⟩ := hcl.rowv
              rw [List.length_map] at hL ⊢
              have HRV := Lib.hid hrv
              have HX := Lib.hid (HB.out.on hb)
              have HWS := Lib.hid (And.intro HB.out.sz hb)
              obtain ⟨d0, f0, l0⟩ := HX.out.at (i := 14) rfl
              clear q0 HCL hb hrv hcl HB
              go_upto_region 25 with fail
              have HM : Hid (MsgL W w19 (World.setCell w20 ⟨W.heap.size, 14, none⟩ (.slice b14 l14.length j14)) 39 #[.int .i64 n0, .int .i64 n1, .int .i64 n2, .int .i64 n3, .int .i64 n4, .int .i64 n5, .slice b6 l6.length j6, .slice b7 l7.length j7, .slice b8 l8.length j8, .slice b9 l9.length j9, .slice b10 l10.length j10, .slice b11 l11.length j11, .slice b12 l12.length j12, .int .i64 n13, .slice b14 l14.length j14] #[.int .i64 0, .int .i64 0, .int .i64 0, .int .i64 0, .int .i64 0, .int .i64 0, .slice none 0 0, .slice none 0 0, .slice none 0 0, .slice none 0 0, .slice none 0 0, .slice none 0 0, .slice none 0 0, .int .i64 0, .slice none 0 0]) := Lib.hid ⟨HX.out.set 14 _, (Kept.of HWS.out.2).trans (Kept.set _ rfl)⟩
              have HR : Hid (RowV w19.heap.size (World.setCell w20 ⟨W.heap.size, 14, none⟩ (.slice b14 l14.length j14)) b14 j14 95 4 (fun _ _ _ b => b < W.heap.size) (l14.map itemD)) := Lib.hid (HRV.out.kept (S := fun b => b = W.heap.size) (Kept.set _ rfl) (fun g hg e => by have := HWS.out.1; omega) fun g j i b hg hb _ e => by omega)
              generalize hw : World.setCell w20 _ _ = w21 at *
              clear hw HX HRV d0 f0 l0
              have q0 := (HM.out.box.at (i := 14) rfl).1
              go_wp2
              clear q0
              go_loopg [6, 7, 126] l14.length (fun m _ _  ix wr => ∃ i : Nat, m + i = l14.length ∧ ix = .int .i64 i ∧ RowV w19.heap.size wr b14 j14 95 4 (fun g => QI W.heap.size g wr.heap.size i) (l14.map itemD) ∧ MsgL W w19 wr 39 #[.int .i64 n0, .int .i64 n1, .int .i64 n2, .int .i64 n3, .int .i64 n4, .int .i64 n5, .slice b6 l6.length j6, .slice b7 l7.length j7, .slice b8 l8.length j8, .slice b9 l9.length j9, .slice b10 l10.length j10, .slice b11 l11.length j11, .slice b12 l12.length j12, .int .i64 n13, .slice b14 l14.length j14] #[.int .i64 0, .int .i64 0, .int .i64 0, .int .i64 0, .int .i64 0, .int .i64 0, .slice none 0 0, .slice none 0 0, .slice none 0 0, .slice none 0 0, .slice none 0 0, .slice none 0 0, .slice none 0 0, .int .i64 0, .slice none 0 0])
              case atStart => exact ⟨0, by omega, rfl, HR.out.mono (fun g j k b _ hb _ => by unfold QI; rw [if_neg (by omega)]; exact hb), HM.out⟩
              case round =>
                clear HR HM
                rename World => w22
                obtain ⟨i, hmi, rfl, hrv, hml⟩ := hrel
                have HMI := Lib.hid hmi
                have HRV := Lib.hid hrv
                have HML := Lib.hid hml
                have hi : i ≤ l14.length := by omega
                have hi0 : (0 : Int) ≤ (i : Int) := by omega
                clear hmi hrv hml
                by_cases hlt : i < l14.length
                · have hii : (i : Int) < l14.length := by omega
                  have HLT := Lib.hid (And.intro hlt trivial)
                  have q1 : i < (l14.map itemD).length := by simpa using hlt
                  have q3 : (l14.map itemD)[i] = itemD l14[i] := List.getElem_map ..
                  obtain ⟨g, e, hg, hrow⟩ := HRV.out.get q1
                  subst e
                  have HG := Lib.hid hg
                  have HROW := Lib.hid hrow
                  have HGL := Lib.hid hrow.lt
                  clear HRV hg hrow
                  obtain ⟨p1, p2, p3⟩ := item_at2 l14 HLT.out.1
                  obtain ⟨u, hcell, hfz, hrd⟩ := HROW.out.cell p1 p2
                  rw [← p3] at hrd
                  have hrd2 : ReadsD (fun b => b < W.heap.size) w22 u (bytesD l14[i].content) := hrd.mono fun b hb _ => by unfold QI at hb; rw [if_neg (by omega)] at hb; exact hb
                  obtain ⟨ua, uc, rfl, -⟩ := hrd2.bslc
                  have HQ := Lib.hid (fun (w' : World) (v' : Value) (hb : Below w22.heap.size w22 w') (hv : ReadsD (fun b => g < b ∧ b < w'.heap.size) w' v' (bytesD l14[i].content)) => ((HROW.out.on hb).put (Q' := fun j k b => if j = i ∧ k = 2 then g < b ∧ b < w'.heap.size else QI W.heap.size g w22.heap.size i j k b) p1 p2 p3 hv (by omega) (QI.not (by have := HG.out; have := HWS.out.1; omega)) (fun _ _ _ => Iff.rfl)).mono (Q' := QI1 W.heap.size g w'.heap.size i) fun j k b hb2 _ => QI1.of hb.size hb2)
                  have HRD := Lib.hid hrd2
                  have HCE := Lib.hid hcell
                  have HFR := Lib.hid (fun (wq : World) (hq : Below w22.heap.size w22 wq) => frozen_on HROW.out hq (i * 4 + 2))
                  have HBX := Lib.hid (fun (wq : World) (hq : Below w22.heap.size w22 wq) => ((HML.out.box.on hq).at (i := 14) rfl).1)
                  clear hcell hfz hrd hrd2 p3 HROW q3
                  generalize hyy : l14[i].content = y at *
                  clear hyy p1 p2
                  go_upto_region 28 with fail
                  refine region_loud [.is (.pointer (some ⟨W.heap.size, 14, none⟩)), .is (.slice (some ⟨g, 0, none⟩) l14.length j14), .is (.int .i64 (i : Int)), .is (.pointer (some ⟨W.heap.size, 14, none⟩)), .is (.slice (some ⟨g, 0, none⟩) l14.length j14), .is (.int .i64 (i : Int)), .is (.pointer (some ⟨g, i * 4, none⟩)), .is (.pointer (some ⟨g, i * 4 + 2, none⟩)), .is (.slice ua y.length uc), leftD w22.heap.size (bytesD y), .is (.pointer (some ⟨g, i * 4, none⟩)), .is (.pointer (some ⟨g, i * 4 + 2, none⟩))] [] (leftRowN W w19 39 #[.int .i64 n0, .int .i64 n1, .int .i64 n2, .int .i64 n3, .int .i64 n4, .int .i64 n5, .slice b6 l6.length j6, .slice b7 l7.length j7, .slice b8 l8.length j8, .slice b9 l9.length j9, .slice b10 l10.length j10, .slice b11 l11.length j11, .slice b12 l12.length j12, .int .i64 n13, .slice (some ⟨g, 0, none⟩) l14.length j14] #[.int .i64 0, .int .i64 0, .int .i64 0, .int .i64 0, .int .i64 0, .int .i64 0, .slice none 0 0, .slice none 0 0, .slice none 0 0, .slice none 0 0, .slice none 0 0, .slice none 0 0, .slice none 0 0, .int .i64 0, .slice none 0 0] g j14 95 4 (fun N => QI1 W.heap.size g N i) (l14.map itemD)) 12 rfl _ rfl (by kernel_rfl) rfl (by kernel_rfl) (by kernel_rfl) (by kernel_rfl) (by kernel_rfl) (.cons ?f0 (.cons ?f1 (.cons ?f2 (.cons ?f3 (.cons ?f4 (.cons ?f5 (.cons ?f6 (.cons ?f7 (.cons ?f8 (.cons ?f9 (.cons ?f10 (.cons ?f11 .nil)))))))))))) ?f12 (.nil) ?ffin
                  case f0 =>
                    intro wq hbw st  K hK
                    simp only [Act.put, List.setIfInBounds_toArray, List.set_cons_zero, List.set_cons_succ] at hK ⊢
                    unfold opStep
                    rw [if_pos (by rfl)]
                    go_simp
                    exact hK.out _ _ (Below.refl _ _) rfl _ rfl
                  case f1 =>
                    intro wq hbw st  K hK
                    simp only [Act.put, List.setIfInBounds_toArray, List.set_cons_zero, List.set_cons_succ] at hK ⊢
                    unfold opStep
                    rw [if_pos (by rfl)]
                    have d0 := HBX.out wq hbw
                    go_simp
                    exact hK.out _ _ (Below.refl _ _) rfl _ rfl
                  case f2 =>
                    intro wq hbw st  K hK
                    simp only [Act.put, List.setIfInBounds_toArray, List.set_cons_zero, List.set_cons_succ] at hK ⊢
                    unfold opStep
                    rw [if_pos (by rfl)]
                    go_simp
                    exact hK.out _ _ (Below.refl _ _) rfl _ rfl
                  case f3 =>
                    intro wq hbw st  K hK
                    simp only [Act.put, List.setIfInBounds_toArray, List.set_cons_zero, List.set_cons_succ] at hK ⊢
                    unfold opStep
                    rw [if_pos (by rfl)]
                    go_simp
                    exact hK.out _ _ (Below.refl _ _) rfl _ rfl
                  case f4 =>
                    intro wq hbw st  K hK
                    simp only [Act.put, List.setIfInBounds_toArray, List.set_cons_zero, List.set_cons_succ] at hK ⊢
                    unfold opStep
                    rw [if_pos (by rfl)]
                    have d0 := HBX.out wq hbw
                    go_simp
                    exact hK.out _ _ (Below.refl _ _) rfl _ rfl
                  case f5 =>
                    intro wq hbw st  K hK
                    simp only [Act.put, List.setIfInBounds_toArray, List.set_cons_zero, List.set_cons_succ] at hK ⊢
                    unfold opStep
                    rw [if_pos (by rfl)]
                    go_simp
                    exact hK.out _ _ (Below.refl _ _) rfl _ rfl
                  case f6 =>
                    intro wq hbw st  K hK
                    simp only [Act.put, List.setIfInBounds_toArray, List.set_cons_zero, List.set_cons_succ] at hK ⊢
                    unfold opStep
                    rw [if_pos (by rfl)]
                    go_simp
                    exact hK.out _ _ (Below.refl _ _) rfl _ rfl
                  case f7 =>
                    intro wq hbw st  K hK
                    simp only [Act.put, List.setIfInBounds_toArray, List.set_cons_zero, List.set_cons_succ] at hK ⊢
                    unfold opStep
                    rw [if_pos (by rfl)]
                    go_simp
                    exact hK.out _ _ (Below.refl _ _) rfl _ rfl
                  case f8 =>
                    intro wq hbw st  K hK
                    simp only [Act.put, List.setIfInBounds_toArray, List.set_cons_zero, List.set_cons_succ] at hK ⊢
                    unfold opStep
                    rw [if_pos (by rfl)]
                    have d0 := HCE.out wq hbw
                    go_simp
                    exact hK.out _ _ (Below.refl _ _) rfl _ rfl
                  case f9 =>
                    intro wq hbw st  K hK
                    simp only [Act.put, List.setIfInBounds_toArray, List.set_cons_zero, List.set_cons_succ] at hK ⊢
                    unfold opStep
                    rw [if_pos (by rfl)]
                    go_simp
                    refine (bytes_any (.slice ua y.length uc) y wq (HRD.out.on hbw)).mono ?_
                    rintro e wz ⟨vz, rfl, hbz, hvz⟩
                    go_simp
                    exact hK.out _ _ hbz (hvz.mono fun b hb _ => Nat.le_trans hbw.size hb) _ rfl
                  case f10 =>
                    intro wq hbw st x9 h9 K hK
                    simp only [Act.put, List.setIfInBounds_toArray, List.set_cons_zero, List.set_cons_succ] at hK ⊢
                    unfold opStep
                    rw [if_pos (by rfl)]
                    go_simp
                    exact hK.out _ _ (Below.refl _ _) rfl _ rfl
                  case f11 =>
                    intro wq hbw st x9 h9 K hK
                    simp only [Act.put, List.setIfInBounds_toArray, List.set_cons_zero, List.set_cons_succ] at hK ⊢
                    unfold opStep
                    rw [if_pos (by rfl)]
                    go_simp
                    exact hK.out _ _ (Below.refl _ _) rfl _ rfl
                  case f12 =>
                    intro wq hbw st x9 h9 K hK
                    simp only [Act.put, List.setIfInBounds_toArray, List.set_cons_zero, List.set_cons_succ] at hK ⊢
                    unfold opStep
                    rw [if_pos (by rfl)]
                    obtain ⟨oa, oc, rfl, -⟩ := ReadsD.bslc (show ReadsD (fun b => w22.heap.size ≤ b) wq x9 (bytesD y) from h9)
                    have c1 := HCE.out wq hbw
                    have f1 := HFR.out wq hbw
                    have l1 : g < wq.heap.size := Nat.lt_of_lt_of_le HGL.out hbw.size
                    go_simp
                    have HN := HQ.out wq _ hbw ((ReadsD.lt h9).mono fun b hb _ => by have := HGL.out; omega)
                    have HKS : Kept (fun b => b = g) wq (wq.setCell ⟨g, i * 4 + 2, none⟩ (.slice oa y.length oc)) := Kept.set _ rfl
                    exact hK.out undef _ ⟨wq.heap.size, HKS.size, HN, (HML.out.on hbw).far HKS HG.out (Nat.le_trans HWS.out.1 HG.out)⟩ _ rfl
                  case ffin =>
                    intro wq
                    intro x9 h9 x12 h12
                    try simp only [FinAll]
                    simp only [Act.put, List.setIfInBounds_toArray, List.set_cons_zero, List.set_cons_succ]
                    obtain ⟨N0, hN0, hN, hM⟩ : ∃ N, N ≤ wq.heap.size ∧ RowD wq g j14 95 4 (QI1 W.heap.size g N i) (l14.map itemD) ∧ MsgL W w19 wq 39 #[.int .i64 n0, .int .i64 n1, .int .i64 n2, .int .i64 n3, .int .i64 n4, .int .i64 n5, .slice b6 l6.length j6, .slice b7 l7.length j7, .slice b8 l8.length j8, .slice b9 l9.length j9, .slice b10 l10.length j10, .slice b11 l11.length j11, .slice b12 l12.length j12, .int .i64 n13, .slice (some ⟨g, 0, none⟩) l14.length j14] #[.int .i64 0, .int .i64 0, .int .i64 0, .int .i64 0, .int .i64 0, .int .i64 0, .slice none 0 0, .slice none 0 0, .slice none 0 0, .slice none 0 0, .slice none 0 0, .slice none 0 0, .slice none 0 0, .int .i64 0, .slice none 0 0] := h12
                    have HROW : Hid (RowD wq g j14 95 4 (QI1 W.heap.size g wq.heap.size i) (l14.map itemD)) := Lib.hid (hN.mono fun j k b hb _ => hb.mono hN0)
                    replace HML := Lib.hid hM
                    replace HGL := Lib.hid hN.lt
                    clear hN hM hN0 N0 h9 HQ HRD HCE HFR HBX
                    rename World => w91
                    obtain ⟨p1, p2, p3⟩ := item_at3 l14 HLT.out.1
                    obtain ⟨u, hcell, hfz, hrd⟩ := HROW.out.cell p1 p2
                    rw [← p3] at hrd
                    have hrd2 : ReadsD (fun b => b < W.heap.size) w91 u (pathD l14[i].path) := hrd.mono fun b hb _ => by unfold QI1 at hb; rw [if_neg (by omega)] at hb; exact hb
                    obtain ⟨ua, uc, rfl, -, -, -, hyL⟩ := ReadsD.slcM (f := fun s => [bytesD s]) hrd2
                    have HOPEN := Lib.hid (fun (w' : World) (v' : Value) (hb : Below w91.heap.size w91 w') => (HROW.out.on hb).open_ p1 p2 (QI1.not (by have := HG.out; have := HWS.out.1; omega)) v')
                    have HCLOSE : Hid (∀ (w' : World) (v' : Value), w91.heap.size ≤ w'.heap.size → RowO w' g j14 95 4 (QI1 W.heap.size g w91.heap.size i) (l14.map itemD) i 3 v' → ReadsD (fun b => g < b ∧ b < w'.heap.size) w' v' (pathD l14[i].path) → RowD w' g j14 95 4 (QI W.heap.size g w'.heap.size (i + 1)) (l14.map itemD)) := Lib.hid fun w' v' hs ho hv => ho.close p1 p2 p3 hv fun j k b hb _ => QI1.next hs hb
                    have HRD := Lib.hid hrd2
                    have HCE := Lib.hid hcell
                    have HFR := Lib.hid (fun (wq : World) (hq : Below w91.heap.size w91 wq) => frozen_on HROW.out hq (i * 4 + 3))
                    have HBX := Lib.hid (fun (wq : World) (hq : Below w91.heap.size w91 wq) => ((HML.out.box.on hq).at (i := 14) rfl).1)
                    clear hcell hfz hrd hrd2 p3 HROW
                    generalize hyy : l14[i].path = y at *
                    clear hyy p1 p2
                    go_upto_region 29 with fail
                    refine region_loud [.is (.pointer (some ⟨W.heap.size, 14, none⟩)), .is (.slice (some ⟨g, 0, none⟩) l14.length j14), .is (.int .i64 (i : Int)), .is (.pointer (some ⟨W.heap.size, 14, none⟩)), .is (.slice (some ⟨g, 0, none⟩) l14.length j14), .is (.int .i64 (i : Int)), .is (.pointer (some ⟨g, i * 4, none⟩)), .is (.pointer (some ⟨g, i * 4 + 3, none⟩)), .is (.slice ua y.length uc), leftV w91.heap.size y.length (fun _ _ _ b => b < W.heap.size) (y.map fun s => [bytesD s]), .is (.pointer (some ⟨g, i * 4, none⟩)), .is (.pointer (some ⟨g, i * 4 + 3, none⟩))] [] (leftPath W w19 39 #[.int .i64 n0, .int .i64 n1, .int .i64 n2, .int .i64 n3, .int .i64 n4, .int .i64 n5, .slice b6 l6.length j6, .slice b7 l7.length j7, .slice b8 l8.length j8, .slice b9 l9.length j9, .slice b10 l10.length j10, .slice b11 l11.length j11, .slice b12 l12.length j12, .int .i64 n13, .slice (some ⟨g, 0, none⟩) l14.length j14] #[.int .i64 0, .int .i64 0, .int .i64 0, .int .i64 0, .int .i64 0, .int .i64 0, .slice none 0 0, .slice none 0 0, .slice none 0 0, .slice none 0 0, .slice none 0 0, .slice none 0 0, .slice none 0 0, .int .i64 0, .slice none 0 0] w91.heap.size g j14 (QI1 W.heap.size g w91.heap.size i) (fun _ _ _ b => b < W.heap.size) (l14.map itemD) (y.map fun s => [bytesD s]) i y.length) 12 rfl _ rfl (by kernel_rfl) rfl (by kernel_rfl) (by kernel_rfl) (by kernel_rfl) (by kernel_rfl) (.cons ?g0 (.cons ?g1 (.cons ?g2 (.cons ?g3 (.cons ?g4 (.cons ?g5 (.cons ?g6 (.cons ?g7 (.cons ?g8 (.cons ?g9 (.cons ?g10 (.cons ?g11 .nil)))))))))))) ?g12 (.nil) ?gfin
                    case g0 =>
                      intro wq hbw st  K hK
                      simp only [Act.put, List.setIfInBounds_toArray, List.set_cons_zero, List.set_cons_succ] at hK ⊢
                      unfold opStep
                      rw [if_pos (by rfl)]
                      go_simp
                      exact hK.out _ _ (Below.refl _ _) rfl _ rfl
                    case g1 =>
                      intro wq hbw st  K hK
                      simp only [Act.put, List.setIfInBounds_toArray, List.set_cons_zero, List.set_cons_succ] at hK ⊢
                      unfold opStep
                      rw [if_pos (by rfl)]
                      have d0 := HBX.out wq hbw
                      go_simp
                      exact hK.out _ _ (Below.refl _ _) rfl _ rfl
                    case g2 =>
                      intro wq hbw st  K hK
                      simp only [Act.put, List.setIfInBounds_toArray, List.set_cons_zero, List.set_cons_succ] at hK ⊢
                      unfold opStep
                      rw [if_pos (by rfl)]
                      go_simp
                      exact hK.out _ _ (Below.refl _ _) rfl _ rfl
                    case g3 =>
                      intro wq hbw st  K hK
                      simp only [Act.put, List.setIfInBounds_toArray, List.set_cons_zero, List.set_cons_succ] at hK ⊢
                      unfold opStep
                      rw [if_pos (by rfl)]
                      go_simp
                      exact hK.out _ _ (Below.refl _ _) rfl _ rfl
                    case g4 =>
                      intro wq hbw st  K hK
                      simp only [Act.put, List.setIfInBounds_toArray, List.set_cons_zero, List.set_cons_succ] at hK ⊢
                      unfold opStep
                      rw [if_pos (by rfl)]
                      have d0 := HBX.out wq hbw
                      go_simp
                      exact hK.out _ _ (Below.refl _ _) rfl _ rfl
                    case g5 =>
                      intro wq hbw st  K hK
                      simp only [Act.put, List.setIfInBounds_toArray, List.set_cons_zero, List.set_cons_succ] at hK ⊢
                      unfold opStep
                      rw [if_pos (by rfl)]
                      go_simp
                      exact hK.out _ _ (Below.refl _ _) rfl _ rfl
                    case g6 =>
                      intro wq hbw st  K hK
                      simp only [Act.put, List.setIfInBounds_toArray, List.set_cons_zero, List.set_cons_succ] at hK ⊢
                      unfold opStep
                      rw [if_pos (by rfl)]
                      go_simp
                      exact hK.out _ _ (Below.refl _ _) rfl _ rfl
                    case g7 =>
                      intro wq hbw st  K hK
                      simp only [Act.put, List.setIfInBounds_toArray, List.set_cons_zero, List.set_cons_succ] at hK ⊢
                      unfold opStep
                      rw [if_pos (by rfl)]
                      go_simp
                      exact hK.out _ _ (Below.refl _ _) rfl _ rfl
                    case g8 =>
                      intro wq hbw st  K hK
                      simp only [Act.put, List.setIfInBounds_toArray, List.set_cons_zero, List.set_cons_succ] at hK ⊢
                      unfold opStep
                      rw [if_pos (by rfl)]
                      have d0 := HCE.out wq hbw
                      go_simp
                      exact hK.out _ _ (Below.refl _ _) rfl _ rfl
                    case g9 =>
                      intro wq hbw st  K hK
                      simp only [Act.put, List.setIfInBounds_toArray, List.set_cons_zero, List.set_cons_succ] at hK ⊢
                      unfold opStep
                      rw [if_pos (by rfl)]
                      go_simp
                      refine (path_clone (P := fun b => b < W.heap.size) (.slice ua y.length uc) (y.map fun s => [bytesD s]) wq (HRD.out.on hbw)).mono ?_
                      rintro e wz ⟨vz, rfl, hcl⟩
                      obtain ⟨hbz, -, az, kz, rfl, hrv⟩ := hcl.rowv
                      rw [List.length_map]
                      go_simp
                      exact hK.out _ _ hbz ⟨az, kz, rfl, hrv.base hbw.size⟩ _ rfl
                    case g10 =>
                      intro wq hbw st x9 h9 K hK
                      simp only [Act.put, List.setIfInBounds_toArray, List.set_cons_zero, List.set_cons_succ] at hK ⊢
                      unfold opStep
                      rw [if_pos (by rfl)]
                      go_simp
                      exact hK.out _ _ (Below.refl _ _) rfl _ rfl
                    case g11 =>
                      intro wq hbw st x9 h9 K hK
                      simp only [Act.put, List.setIfInBounds_toArray, List.set_cons_zero, List.set_cons_succ] at hK ⊢
                      unfold opStep
                      rw [if_pos (by rfl)]
                      go_simp
                      exact hK.out _ _ (Below.refl _ _) rfl _ rfl
                    case g12 =>
                      intro wq hbw st x9 h9 K hK
                      simp only [Act.put, List.setIfInBounds_toArray, List.set_cons_zero, List.set_cons_succ] at hK ⊢
                      unfold opStep
                      rw [if_pos (by rfl)]
                      obtain ⟨oa, oc, rfl, hrv⟩ : ∃ oa k, x9 = .slice oa y.length k ∧ RowV w91.heap.size wq oa k 22 1 (fun _ _ _ b => b < W.heap.size) (y.map fun s => [bytesD s]) := h9
                      have c1 := HCE.out wq hbw
                      have f1 := HFR.out wq hbw
                      have l1 : g < wq.heap.size := Nat.lt_of_lt_of_le HGL.out hbw.size
                      go_simp
                      have HKS : Kept (fun b => b = g) wq (wq.setCell ⟨g, i * 4 + 3, none⟩ (.slice oa y.length oc)) := Kept.set _ rfl
                      exact hK.out undef _ ⟨oa, oc, hrv.kept HKS (fun g2 hg e => by have := HGL.out; omega) (fun g2 j k b hg hb _ e => by have := HG.out; have := HWS.out.1; omega), HOPEN.out wq _ hbw, (HML.out.on hbw).far HKS HG.out (Nat.le_trans HWS.out.1 HG.out), Nat.le_trans hbw.size HKS.size⟩ _ rfl
                    case gfin =>
                      intro wq
                      intro x9 h9 x12 h12
                      try simp only [FinAll]
                      simp only [Act.put, List.setIfInBounds_toArray, List.set_cons_zero, List.set_cons_succ]
                      obtain ⟨oa, oc, hpl⟩ : ∃ oa oc, PathL W w19 39 #[.int .i64 n0, .int .i64 n1, .int .i64 n2, .int .i64 n3, .int .i64 n4, .int .i64 n5, .slice b6 l6.length j6, .slice b7 l7.length j7, .slice b8 l8.length j8, .slice b9 l9.length j9, .slice b10 l10.length j10, .slice b11 l11.length j11, .slice b12 l12.length j12, .int .i64 n13, .slice (some ⟨g, 0, none⟩) l14.length j14] #[.int .i64 0, .int .i64 0, .int .i64 0, .int .i64 0, .int .i64 0, .int .i64 0, .slice none 0 0, .slice none 0 0, .slice none 0 0, .slice none 0 0, .slice none 0 0, .slice none 0 0, .slice none 0 0, .int .i64 0, .slice none 0 0] w91.heap.size g j14 (QI1 W.heap.size g w91.heap.size i) (fun _ _ _ b => b < W.heap.size) (l14.map itemD) (y.map fun s => [bytesD s]) i y.length oa oc wq := h12
                      have HPL := Lib.hid hpl
                      clear hpl h9 HOPEN HRD HCE HFR HBX HML
                      rename World => w92
                      have c0 := (HPL.out.msg.box.at (i := 14) rfl).1
                      have c1 := HPL.out.out.cell (Below.refl _ _)
                      go_wp2
                      clear c0 c1
                      obtain ⟨G1, hG1⟩ : ∃ G, G = gk := ⟨_, rfl⟩
                      subst hG1
                      go_loopg [7, 160] y.length (fun m _ ix wr => ∃ k : Nat, m + k = y.length ∧ ix = .int .i64 k ∧ PathL W w19 39 #[.int .i64 n0, .int .i64 n1, .int .i64 n2, .int .i64 n3, .int .i64 n4, .int .i64 n5, .slice b6 l6.length j6, .slice b7 l7.length j7, .slice b8 l8.length j8, .slice b9 l9.length j9, .slice b10 l10.length j10, .slice b11 l11.length j11, .slice b12 l12.length j12, .int .i64 n13, .slice (some ⟨g, 0, none⟩) l14.length j14] #[.int .i64 0, .int .i64 0, .int .i64 0, .int .i64 0, .int .i64 0, .int .i64 0, .slice none 0 0, .slice none 0 0, .slice none 0 0, .slice none 0 0, .slice none 0 0, .slice none 0 0, .slice none 0 0, .int .i64 0, .slice none 0 0] w91.heap.size g j14 (QI1 W.heap.size g w91.heap.size i) (fun g2 => QE W.heap.size g2 k) (l14.map itemD) (y.map fun s => [bytesD s]) i y.length oa oc wr)
                      case atStart => exact ⟨0, by omega, rfl, HPL.out.row.mono (fun g2 j k b _ hb _ => by unfold QE; rw [if_neg (by omega)]; exact hb), HPL.out.out, HPL.out.msg, HPL.out.le⟩
                      case round =>
                        clear HPL
                        rename World => w93
                        obtain ⟨k, hmk, rfl, hpl⟩ := hrel
                        have HM2 := Lib.hid hmk
                        have HPL := Lib.hid hpl
                        have hk : k ≤ y.length := by omega
                        have hk0 : (0 : Int) ≤ (k : Int) := by omega
                        clear hmk hpl
                        by_cases hkl : k < y.length
                        · have hki : (k : Int) < y.length := by omega
                          have HKL := Lib.hid (And.intro hkl trivial)
                          have r1 : k < (y.map fun s => [bytesD s]).length := by simpa using hkl
                          have r3 : (y.map fun s => [bytesD s])[k] = [bytesD y[k]] := List.getElem_map ..
                          obtain ⟨g2, e, hg2, hrow2⟩ := HPL.out.row.get r1
                          subst e
                          obtain ⟨u, hcell, hfz, hrd⟩ := hrow2.cell r1 (by rw [r3]; exact Nat.zero_lt_one)
                          simp only [r3, List.getElem_cons_zero] at hrd
                          rw [Nat.mul_one, Nat.add_zero] at hcell
                          have hrd2 : ReadsD (fun b => b < W.heap.size) w93 u (bytesD y[k]) := hrd.mono fun b hb _ => by unfold QE at hb; rw [if_neg (by omega)] at hb; exact hb
                          obtain ⟨da, dc, rfl, -⟩ := hrd2.bslc
                          have HQ := Lib.hid (fun (w' : World) (v' : Value) (hb : Below w93.heap.size w93 w') (hv : ReadsD (fun b => g2 < b) w' v' (bytesD y[k])) => (hrow2.on hb).putRow (Q' := QE W.heap.size g2 (k + 1)) (cs := [v']) r1 (by rw [r3]; exact .mk hv .empty) (Nat.lt_irrefl g2) (QE.not (by have := HG.out; have := HWS.out.1; have := HGL.out; have := HPL.out.le; omega)) fun _ _ _ h => QE.step h)
                          have HRD := Lib.hid hrd2
                          have HCE := Lib.hid hcell
                          have HFR := Lib.hid (fun (wq : World) (hq : Below w93.heap.size w93 wq) => frozen_on hrow2 hq k)
                          have HG2 := Lib.hid (And.intro hg2 hrow2.lt)
                          have HCO := Lib.hid (fun (wq : World) (hq : Below w93.heap.size w93 wq) => HPL.out.out.cell hq)
                          have HBX := Lib.hid (fun (wq : World) (hq : Below w93.heap.size w93 wq) => ((HPL.out.msg.box.on hq).at (i := 14) rfl).1)
                          clear hcell hfz hrd hrd2 r3 hrow2 hg2
                          generalize hzz : y[k] = z at *
                          clear hzz r1 hkl
                          go_upto_region 33 with fail
                          refine region_loud [.is (.pointer (some ⟨W.heap.size, 14, none⟩)), .is (.slice (some ⟨g, 0, none⟩) l14.length j14), .is (.int .i64 (i : Int)), .is (.pointer (some ⟨g, i * 4, none⟩)), .is (.pointer (some ⟨g, i * 4 + 3, none⟩)), .is (.slice (some ⟨g2, 0, none⟩) y.length oc), .is (.int .i64 (k : Int)), .is (.pointer (some ⟨W.heap.size, 14, none⟩)), .is (.slice (some ⟨g, 0, none⟩) l14.length j14), .is (.int .i64 (i : Int)), .is (.pointer (some ⟨g, i * 4, none⟩)), .is (.pointer (some ⟨g, i * 4 + 3, none⟩)), .is (.slice (some ⟨g2, 0, none⟩) y.length oc), .is (.int .i64 (k : Int)), .is (.pointer (some ⟨g2, k, none⟩)), .is (.slice da z.length dc), leftD w93.heap.size (bytesD z), .is (.pointer (some ⟨g2, k, none⟩))] [] (leftPathAt W w19 39 #[.int .i64 n0, .int .i64 n1, .int .i64 n2, .int .i64 n3, .int .i64 n4, .int .i64 n5, .slice b6 l6.length j6, .slice b7 l7.length j7, .slice b8 l8.length j8, .slice b9 l9.length j9, .slice b10 l10.length j10, .slice b11 l11.length j11, .slice b12 l12.length j12, .int .i64 n13, .slice (some ⟨g, 0, none⟩) l14.length j14] #[.int .i64 0, .int .i64 0, .int .i64 0, .int .i64 0, .int .i64 0, .int .i64 0, .slice none 0 0, .slice none 0 0, .slice none 0 0, .slice none 0 0, .slice none 0 0, .slice none 0 0, .slice none 0 0, .int .i64 0, .slice none 0 0] w91.heap.size g j14 (QI1 W.heap.size g w91.heap.size i) (fun g2 => QE W.heap.size g2 (k + 1)) (l14.map itemD) (y.map fun s => [bytesD s]) i y.length (some ⟨g2, 0, none⟩) oc) 18 rfl _ rfl (by kernel_rfl) rfl (by kernel_rfl) (by kernel_rfl) (by kernel_rfl) (by kernel_rfl) (.cons ?h0 (.cons ?h1 (.cons ?h2 (.cons ?h3 (.cons ?h4 (.cons ?h5 (.cons ?h6 (.cons ?h7 (.cons ?h8 (.cons ?h9 (.cons ?h10 (.cons ?h11 (.cons ?h12 (.cons ?h13 (.cons ?h14 (.cons ?h15 (.cons ?h16 (.cons ?h17 .nil)))))))))))))))))) ?h18 (.nil) ?hfin
                          case h0 =>
                            intro wq hbw st  K hK
                            simp only [Act.put, List.setIfInBounds_toArray, List.set_cons_zero, List.set_cons_succ] at hK ⊢
                            unfold opStep
                            rw [if_pos (by rfl)]
                            go_simp
                            exact hK.out _ _ (Below.refl _ _) rfl _ rfl
                          case h1 =>
                            intro wq hbw st  K hK
                            simp only [Act.put, List.setIfInBounds_toArray, List.set_cons_zero, List.set_cons_succ] at hK ⊢
                            unfold opStep
                            rw [if_pos (by rfl)]
                            have d0 := HBX.out wq hbw
                            go_simp
                            exact hK.out _ _ (Below.refl _ _) rfl _ rfl
                          case h2 =>
                            intro wq hbw st  K hK
                            simp only [Act.put, List.setIfInBounds_toArray, List.set_cons_zero, List.set_cons_succ] at hK ⊢
                            unfold opStep
                            rw [if_pos (by rfl)]
                            go_simp
                            exact hK.out _ _ (Below.refl _ _) rfl _ rfl
                          case h3 =>
                            intro wq hbw st  K hK
                            simp only [Act.put, List.setIfInBounds_toArray, List.set_cons_zero, List.set_cons_succ] at hK ⊢
                            unfold opStep
                            rw [if_pos (by rfl)]
                            go_simp
                            exact hK.out _ _ (Below.refl _ _) rfl _ rfl
                          case h4 =>
                            intro wq hbw st  K hK
                            simp only [Act.put, List.setIfInBounds_toArray, List.set_cons_zero, List.set_cons_succ] at hK ⊢
                            unfold opStep
                            rw [if_pos (by rfl)]
                            go_simp
                            exact hK.out _ _ (Below.refl _ _) rfl _ rfl
                          case h5 =>
                            intro wq hbw st  K hK
                            simp only [Act.put, List.setIfInBounds_toArray, List.set_cons_zero, List.set_cons_succ] at hK ⊢
                            unfold opStep
                            rw [if_pos (by rfl)]
                            have d0 := HCO.out wq hbw
                            go_simp
                            exact hK.out _ _ (Below.refl _ _) rfl _ rfl
                          case h6 =>
                            intro wq hbw st  K hK
                            simp only [Act.put, List.setIfInBounds_toArray, List.set_cons_zero, List.set_cons_succ] at hK ⊢
                            unfold opStep
                            rw [if_pos (by rfl)]
                            go_simp
                            exact hK.out _ _ (Below.refl _ _) rfl _ rfl
                          case h7 =>
                            intro wq hbw st  K hK
                            simp only [Act.put, List.setIfInBounds_toArray, List.set_cons_zero, List.set_cons_succ] at hK ⊢
                            unfold opStep
                            rw [if_pos (by rfl)]
                            go_simp
                            exact hK.out _ _ (Below.refl _ _) rfl _ rfl
                          case h8 =>
                            intro wq hbw st  K hK
                            simp only [Act.put, List.setIfInBounds_toArray, List.set_cons_zero, List.set_cons_succ] at hK ⊢
                            unfold opStep
                            rw [if_pos (by rfl)]
                            have d0 := HBX.out wq hbw
                            go_simp
                            exact hK.out _ _ (Below.refl _ _) rfl _ rfl
                          case h9 =>
                            intro wq hbw st  K hK
                            simp only [Act.put, List.setIfInBounds_toArray, List.set_cons_zero, List.set_cons_succ] at hK ⊢
                            unfold opStep
                            rw [if_pos (by rfl)]
                            go_simp
                            exact hK.out _ _ (Below.refl _ _) rfl _ rfl
                          case h10 =>
                            intro wq hbw st  K hK
                            simp only [Act.put, List.setIfInBounds_toArray, List.set_cons_zero, List.set_cons_succ] at hK ⊢
                            unfold opStep
                            rw [if_pos (by rfl)]
                            go_simp
                            exact hK.out _ _ (Below.refl _ _) rfl _ rfl
                          case h11 =>
                            intro wq hbw st  K hK
                            simp only [Act.put, List.setIfInBounds_toArray, List.set_cons_zero, List.set_cons_succ] at hK ⊢
                            unfold opStep
                            rw [if_pos (by rfl)]
                            go_simp
                            exact hK.out _ _ (Below.refl _ _) rfl _ rfl
                          case h12 =>
                            intro wq hbw st  K hK
                            simp only [Act.put, List.setIfInBounds_toArray, List.set_cons_zero, List.set_cons_succ] at hK ⊢
                            unfold opStep
                            rw [if_pos (by rfl)]
                            have d0 := HCO.out wq hbw
                            go_simp
                            exact hK.out _ _ (Below.refl _ _) rfl _ rfl
                          case h13 =>
                            intro wq hbw st  K hK
                            simp only [Act.put, List.setIfInBounds_toArray, List.set_cons_zero, List.set_cons_succ] at hK ⊢
                            unfold opStep
                            rw [if_pos (by rfl)]
                            go_simp
                            exact hK.out _ _ (Below.refl _ _) rfl _ rfl
                          case h14 =>
                            intro wq hbw st  K hK
                            simp only [Act.put, List.setIfInBounds_toArray, List.set_cons_zero, List.set_cons_succ] at hK ⊢
                            unfold opStep
                            rw [if_pos (by rfl)]
                            go_simp
                            exact hK.out _ _ (Below.refl _ _) rfl _ rfl
                          case h15 =>
                            intro wq hbw st  K hK
                            simp only [Act.put, List.setIfInBounds_toArray, List.set_cons_zero, List.set_cons_succ] at hK ⊢
                            unfold opStep
                            rw [if_pos (by rfl)]
                            have d0 := HCE.out wq hbw
                            go_simp
                            exact hK.out _ _ (Below.refl _ _) rfl _ rfl
                          case h16 =>
                            intro wq hbw st  K hK
                            simp only [Act.put, List.setIfInBounds_toArray, List.set_cons_zero, List.set_cons_succ] at hK ⊢
                            unfold opStep
                            rw [if_pos (by rfl)]
                            go_simp
                            refine (bytes_any (.slice da z.length dc) z wq (HRD.out.on hbw)).mono ?_
                            rintro e wz ⟨vz, rfl, hbz, hvz⟩
                            go_simp
                            exact hK.out _ _ hbz (hvz.mono fun b hb _ => Nat.le_trans hbw.size hb) _ rfl
                          case h17 =>
                            intro wq hbw st x16 h16 K hK
                            simp only [Act.put, List.setIfInBounds_toArray, List.set_cons_zero, List.set_cons_succ] at hK ⊢
                            unfold opStep
                            rw [if_pos (by rfl)]
                            go_simp
                            exact hK.out _ _ (Below.refl _ _) rfl _ rfl
                          case h18 =>
                            intro wq hbw st x16 h16 K hK
                            simp only [Act.put, List.setIfInBounds_toArray, List.set_cons_zero, List.set_cons_succ] at hK ⊢
                            unfold opStep
                            rw [if_pos (by rfl)]
                            obtain ⟨xa, xc, rfl, -⟩ := ReadsD.bslc (show ReadsD (fun b => w93.heap.size ≤ b) wq x16 (bytesD z) from h16)
                            have c1 := HCE.out wq hbw
                            have f1 := HFR.out wq hbw
                            have l1 : g2 < wq.heap.size := Nat.lt_of_lt_of_le HG2.out.2 hbw.size
                            go_simp
                            have HN := HQ.out wq _ hbw (ReadsD.mono h16 fun b hb _ => by have := HG2.out.2; omega)
                            have HKS : Kept (fun b => b = g2) wq (wq.setCell ⟨g2, k, none⟩ (.slice xa z.length xc)) := Kept.set _ rfl
                            have HN2 : RowD (wq.setCell ⟨g2, k, none⟩ (.slice xa z.length xc)) g2 oc 22 1 (QE W.heap.size g2 (k + 1)) (y.map fun s => [bytesD s]) := by rw [Nat.mul_one] at HN; exact HN
                            exact hK.out undef _ ⟨RowV.mk (by have := HKL.out.1; simp; omega) HG2.out.1 HN2, (HPL.out.out.on hbw).kept HKS (fun e => by have := HGL.out; have := HG2.out.1; omega) (fun j m b hb => by have := HG.out; have := HWS.out.1; have := HG2.out.1; have := HGL.out; unfold QI1 at hb; split at hb <;> omega), (HPL.out.msg.on hbw).far HKS (by have := HG.out; have := HG2.out.1; have := HGL.out; omega) (by have := HG.out; have := HWS.out.1; have := HG2.out.1; have := HGL.out; omega), Nat.le_trans (Nat.le_trans HPL.out.le hbw.size) HKS.size⟩ _ rfl
                          case hfin =>
                            intro wq
                            intro x16 h16 x18 h18
                            try simp only [FinAll]
                            simp only [Act.put, List.setIfInBounds_toArray, List.set_cons_zero, List.set_cons_succ]
                            have HPN : Hid (PathL W w19 39 #[.int .i64 n0, .int .i64 n1, .int .i64 n2, .int .i64 n3, .int .i64 n4, .int .i64 n5, .slice b6 l6.length j6, .slice b7 l7.length j7, .slice b8 l8.length j8, .slice b9 l9.length j9, .slice b10 l10.length j10, .slice b11 l11.length j11, .slice b12 l12.length j12, .int .i64 n13, .slice (some ⟨g, 0, none⟩) l14.length j14] #[.int .i64 0, .int .i64 0, .int .i64 0, .int .i64 0, .int .i64 0, .int .i64 0, .slice none 0 0, .slice none 0 0, .slice none 0 0, .slice none 0 0, .slice none 0 0, .slice none 0 0, .slice none 0 0, .int .i64 0, .slice none 0 0] w91.heap.size g j14 (QI1 W.heap.size g w91.heap.size i) (fun g2 => QE W.heap.size g2 (k + 1)) (l14.map itemD) (y.map fun s => [bytesD s]) i y.length (some ⟨g2, 0, none⟩) oc wq) := Lib.hid h18
                            clear h16 h18 HQ HRD HCE HFR HCO HBX HPL
                            go_wp2
                            go_roundg (y.length - (k + 1))
                            case measure => have := HM2.out; have := HKL.out.1; omega
                            case rel => exact ⟨k + 1, by have := HKL.out.1; omega, by go_num, HPN.out⟩
                        · have hki : ¬ (k : Int) < y.length := by omega
                          have hke : k = y.length := by omega
                          have HROW : Hid (RowD w93 g j14 95 4 (QI W.heap.size g w93.heap.size (i + 1)) (l14.map itemD)) := Lib.hid (HCLOSE.out w93 _ HPL.out.le HPL.out.out (by
                            have h1 := HPL.out.row.reads (P := fun b => g < b) (fun g2 hg2 => by have := HGL.out; omega) (fun g2 hg2 j hj m hm => .inr fun b hb => by
                              unfold QE at hb
                              rw [if_pos (by rw [hke]; simpa using hj)] at hb
                              have := HGL.out
                              omega)
                            rw [List.length_map] at h1
                            exact h1.lt))
                          have HML := Lib.hid HPL.out.msg
                          clear HCLOSE HPL hke
                          go_wp2
                          go_roundg (l14.length - (i + 1))
                          case measure => have := HMI.out; have := HLT.out.1; omega
                          case rel => exact ⟨i + 1, by have := HLT.out.1; omega, by go_num, RowV.mk (by have := HLT.out.1; simp; omega) HG.out HROW.out, HML.out⟩
                · have hii : ¬ (i : Int) < l14.length := by omega
                  have e : i = l14.length := by omega
                  have D14 : Hid (ReadsD (fun b => W.heap.size + 2 ≤ b) w22 (.slice b14 l14.length j14) (itemsD l14)) := Lib.hid (by
                    have h1 := HRV.out.reads (P := fun b => W.heap.size + 2 ≤ b) (fun g hg => Nat.le_trans HWS.out.1 hg) (fun g hg j hj k hk => item_done l14 j hj k hk (by rw [e]; simpa using hj) (fun b hb => by have := HWS.out.1; omega))
                    unfold itemsD; simpa using h1)
                  replace D6 := Lib.hid (D6.out.kept HML.out.kept fun b hb e => by omega)
                  replace D7 := Lib.hid (D7.out.kept HML.out.kept fun b hb e => by omega)
                  replace D8 := Lib.hid (D8.out.kept HML.out.kept fun b hb e => by omega)
                  replace D9 := Lib.hid (D9.out.kept HML.out.kept fun b hb e => by omega)
                  replace D10 := Lib.hid (D10.out.kept HML.out.kept fun b hb e => by omega)
                  replace D11 := Lib.hid (D11.out.kept HML.out.kept fun b hb e => by omega)
                  replace D12 := Lib.hid (D12.out.kept HML.out.kept fun b hb e => by omega)
                  have HB := Lib.hid HML.out.box
                  clear HRV HML HWS e hi hlt HMI
                  have HONE : Hid ((#[.int .i64 n0, .int .i64 n1, .int .i64 n2, .int .i64 n3, .int .i64 n4, .int .i64 n5, .slice b6 l6.length j6, .slice b7 l7.length j7, .slice b8 l8.length j8, .slice b9 l9.length j9, .slice b10 l10.length j10, .slice b11 l11.length j11, .slice b12 l12.length j12, .int .i64 n13, .slice b14 l14.length j14] : Array Value).all (·.oneCell') = true) := Lib.hid (by simp [Value.oneCell'])
                  have HRG := Lib.hid (Blk.range HB.out.box)
                  go_wp2_with (first | (refine wpList_load_mid rfl 39 (.tmp 1) rfl W.heap.size 0 rfl _ _ HRG.out Try.underlying39 rfl msg_size ?_) | (refine wpList_store_box rfl 39 (.tmp 2) (.tmp 183) rfl (W.heap.size + 1) 39 _ #[.int .i64 n0, .int .i64 n1, .int .i64 n2, .int .i64 n3, .int .i64 n4, .int .i64 n5, .slice b6 l6.length j6, .slice b7 l7.length j7, .slice b8 l8.length j8, .slice b9 l9.length j9, .slice b10 l10.length j10, .slice b11 l11.length j11, .slice b12 l12.length j12, .int .i64 n13, .slice b14 l14.length j14] rfl rfl HB.out.res msg_size rfl HONE.out ?_))
                  intro w9 hB9 hk9
                  have HL := Lib.hid (run_loadVar_mid (P := Try.prog) w9 (W.heap.size + 1) 0 39 _ _ (Blk.range hB9) Try.underlying39 rfl msg_size)
                  have HG : Hid (Below W.heap.size W w9) := Lib.hid (HB.out.bel.trans (hk9.below HB.out.bel.size fun k h e => by omega))
                  have HM : ∀ {v : Value} {d : DV}, ReadsD (fun b => W.heap.size + 2 ≤ b) w22 v d → ReadsD (fun b => W.heap.size + 2 ≤ b) w9 v d := fun h => h.kept hk9 fun b hb e => by omega
                  have HF := Lib.hid (HFIN.out w9 _ _ _ _ _ _ _ _ (HM D6.out) (HM D7.out) (HM D8.out) (HM D9.out) (HM D10.out) (HM D11.out) (HM D12.out) (HM D14.out))
                  clear hk9 hB9 HM
                  go_wp2
                  refine bodyPost_ret (results_cell rfl rfl HL.out) rfl ⟨_, rfl, HG.out, HF.out⟩
end Go.Proofs.Ytmcdmcnbnnfhnaa
