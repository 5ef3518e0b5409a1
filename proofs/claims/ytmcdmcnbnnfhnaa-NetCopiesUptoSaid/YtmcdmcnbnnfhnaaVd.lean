/-
  Chapter 28: Peek and Send.
-/
import Derived.Test.YtmcdmcnbnnfhnaaVc
namespace Go.Proofs.Ytmcdmcnbnnfhnaa
open Go.RowKit

section
variable {ops : Array Oper} {rest : List Oper} {op : Oper} {a : Act} {w : World} {Q : Exit → Act → World → Prop} {K : Act → World → Prop}
theorem wp_mapv_len {b n : Nat} {M : Int → Option Value} (t : TypeId) (m : Operand) (hop : op.op = Op.call { callee := Callee.builtin Builtin.len, args := #[m], argTypes := #[t] }) {e : TypeId} (ht : Try.prog.underlying t = some (.map 3 e))
    (hm : a.eval m = .map (some b)) (hM : MapV w b n M) (hK : K (a.put op.dst (.int .i64 n)) w) : op.wp Try.prog a w K Q := by
  have hrun := hM.len ht op.type
  unfold Oper.wp
  simp [execOp, hop, resolve, invoke, builtin, hm, hrun, Result.andThen]
  exact hK
theorem msg_under : ∃ x, Try.prog.underlying 39 = some x := ⟨_, Try.underlying39⟩
theorem wpList_store_msg (hgd : op.guard = none) (x y : Operand) (ho : op.op = .store 39 x y) (g : Nat) (old : Array Value) (cs : List Value) (hx : a.eval x = .pointer (some ⟨g, 0, none⟩)) (hy : a.eval y = .agg cs.toArray)
    (hB : Blk w g 39 old) (hold : old.size = 15) (hl : cs.length = 15) (h1 : cs.toArray.all (·.oneCell') = true) (h : ∀ w', Blk w' g 39 cs.toArray → Kept (fun b => b = g) w w' → wpList Try.prog ops Q rest (a.put op.dst undef) w') : wpList Try.prog ops Q (op :: rest) a w :=
  wpList_store_box hgd 39 x y ho g 39 old cs.toArray hx hy hB (by rw [List.size_toArray, hl]; kernel_rfl) (by rw [hold, List.size_toArray, hl]) h1 h
theorem wpList_load_msg (hgd : op.guard = none) (x : Operand) (ho : op.op = .load 39 x) (g : Nat) (cs : List Value) (hx : a.eval x = .pointer (some ⟨g, 0, none⟩)) (hB : Blk w g 39 cs.toArray) (hl : cs.length = 15)
    (h : wpList Try.prog ops Q rest (a.put op.dst (.agg cs.toArray)) w) : wpList Try.prog ops Q (op :: rest) a w :=
  wpList_load_mid hgd 39 x ho g 0 hx cs _ (Blk.range hB) Try.underlying39 (by rfl) (by rw [hl]; kernel_rfl) h
theorem wp_load_msg (x : Operand) (ho : op.op = .load 39 x) (g : Nat) (cs : List Value) (hx : a.eval x = .pointer (some ⟨g, 0, none⟩)) (hB : Blk w g 39 cs.toArray) (hl : cs.length = 15)
    (h : K (a.put op.dst (.agg cs.toArray)) w) : op.wp Try.prog a w K Q :=
  wp_load_mid 39 x ho g 0 hx cs _ (Blk.range hB) Try.underlying39 (by rfl) (by rw [hl]; kernel_rfl) h
theorem load_msg {g : Nat} {cs : List Value} (hB : Blk w g 39 cs.toArray) (hl : cs.length = 15) : (loadVar 39 ⟨g, 0, none⟩).run Try.prog w = .ok (.agg cs.toArray) w :=
  run_loadVar_mid (P := Try.prog) w g 0 39 _ _ (Blk.range hB) Try.underlying39 rfl (by rw [hl]; kernel_rfl)
end
theorem results_cell2 {P : Program} {fn : Func} {a c : Tmp} {t : TypeId} {tmps : Array Value} {b o : Nat} {v u : Value} {w : World} (h : fn.results = #[.cell a t, .tmp c]) (ha : tmps.getD a undef = .pointer (some ⟨b, o, none⟩)) (hl : (loadVar t ⟨b, o, none⟩).run P w = .ok v w) (hc : tmps.getD c undef = u) :
    (results fn tmps).run P w = .ok (.tuple #[v, u]) w := by
  rw [Array.getD_eq_getD_getElem?] at ha hc
  simp [results, h, ha, hc, asAddr, hl]
def zeroM : MsgM := ⟨0, 0, 0, 0, 0, 0, [], [], [], [], [], [], [], 0, []⟩
def zeroC : List Value := [.int .i64 0, .int .i64 0, .int .i64 0, .int .i64 0, .int .i64 0, .int .i64 0, .slice none 0 0, .slice none 0 0, .slice none 0 0, .slice none 0 0, .slice none 0 0, .slice none 0 0, .slice none 0 0, .int .i64 0, .slice none 0 0]
theorem zeroMsg_run (w : World) : (zeroValue 39).run Try.prog w = .ok (.agg zeroC.toArray) w := by kernel_rfl
theorem zero_cells (P : Nat → Prop) (w : World) : CellsD P w zeroC (msgD zeroM) := by
  have hn : ∀ K, ReadsD P w (.slice none 0 0) (.ls K []) := fun K => .nil K none 0 (by simp [maxLen]) fun _ => rfl
  exact .mk (readsD_i _ _ _) (.mk (readsD_i _ _ _) (.mk (readsD_i _ _ _) (.mk (readsD_i _ _ _) (.mk (readsD_i _ _ _) (.mk (readsD_i _ _ _) (.mk (hn _) (.mk (hn _) (.mk (hn _) (.mk (hn _) (.mk (hn _) (.mk (hn _) (.mk (hn _) (.mk (readsD_i _ _ _) (.mk (hn _) .empty))))))))))))))
theorem msg_ft {P : Nat → Prop} {w : World} {cs : List Value} {m : MsgM} (h : CellsD P w cs (msgD m)) : cs[1]? = some (.int .i64 m.frm) ∧ cs[2]? = some (.int .i64 m.to) ∧ cs[13]? = some (.int .i64 m.seq) := by
  have hl := msg_len h
  refine ⟨?_, ?_, ?_⟩
  · rw [List.getElem?_eq_getElem (by omega)]; exact congrArg some (h.2 1 _ (iD m.frm) (List.getElem?_eq_getElem (by omega)) rfl).i
  · rw [List.getElem?_eq_getElem (by omega)]; exact congrArg some (h.2 2 _ (iD m.to) (List.getElem?_eq_getElem (by omega)) rfl).i
  · rw [List.getElem?_eq_getElem (by omega)]; exact congrArg some (h.2 13 _ (iD m.seq) (List.getElem?_eq_getElem (by omega)) rfl).i
/-- A message that came out, and an error. -/
def PeekMade (m : MsgM) (r : Int) (w : World) (e : Ending) (w' : World) : Prop := ∃ cs : List Value, e = .returned (.tuple #[.agg cs.toArray, .int .i64 r]) ∧ Below w.heap.size w w' ∧ CellsD (fun k => w.heap.size ≤ k) w' cs (msgD m)
def peekR (s : NetS) (x : Int) : MsgM × Int := match s.ms x with | none => (zeroM, 14) | some m => (m, 0)
section
variable {P : Nat → Prop} {n b : Nat} {gv : Value} {s : NetS} {w : World}
set_option maxRecDepth 100000
set_option maxHeartbeats 4000000
theorem peek_any (x : Int) (hx : I64 x) (h : NetAt P n b gv s w) : Calls Try.prog 13 #[.pointer (some ⟨n, 0, none⟩), .int .i64 x] w (PeekMade (peekR s x).1 (peekR s x).2 w) := by
  have HF : Hid (∀ m r e w', (∃ cs : List Value, e = .returned (.tuple #[.agg cs.toArray, .int .i64 r]) ∧ Below w.heap.size w w' ∧ CellsD (fun k => w.heap.size ≤ k) w' cs (msgD m)) → PeekMade m r w e w') := Lib.hid fun m r e w' h => h
  have HN := Lib.hid h
  have HX := Lib.hid hx
  obtain ⟨M, hM, hM2⟩ := h.way
  clear h hx
  unfold peekR
  have HZL : Hid (zeroC.length = 15) := Lib.hid rfl
  have HZ1 : Hid (zeroC.toArray.all (·.oneCell') = true) := Lib.hid (CellsD.all (zero_cells (fun _ => True) w))
  cases hs : s.ms x with
  | none =>
    have HV : Hid ((M x).getD (.agg zeroC.toArray) = .agg zeroC.toArray ∧ (M x).isSome = false) := Lib.hid (by rw [(hM2 x HX.out).1 hs]; exact ⟨rfl, rfl⟩)
    have HM := Lib.hid hM
    clear hM hM2 hs
    have HF2 := Lib.hid (HF.out zeroM 14)
    simp only
    generalize hQ : PeekMade zeroM 14 w = Q at *
    clear HF hQ
    go_enter Try.func13, Try.ntmps13
    go_upto_region 1 with fail
    have HB : Hid (Blk (w.alloc (.cells zeroC.toArray 39)) w.heap.size 39 zeroC.toArray ∧ Below w.heap.size w (w.alloc (.cells zeroC.toArray 39)) ∧ (w.alloc (.cells zeroC.toArray 39)).heap.size = w.heap.size + 1) := Lib.hid ⟨Blk.new w _ _, (Below.refl _ _).alloc (Nat.le_refl _) _, World.size_alloc _ _⟩
    change Code.wp _ _ _ _ (w.alloc (.cells zeroC.toArray 39))
    generalize hw1 : World.alloc w _ = w1 at HB ⊢
    clear hw1
    have d2 : w1.cell? ⟨n, 2, none⟩ = some (.map (some b)) := (HN.out.on HB.out.2.1).box.cell 2
    have HM1 := Lib.hid (HM.out.on HB.out.2.1)
    have HS : Hid (Blk (w1.alloc (.cells zeroC.toArray 39)) w1.heap.size 39 zeroC.toArray) := Lib.hid (Blk.new w1 _ _)
    go_upto_region 2 with (first | (refine wpList_mapv_ok rfl 72 (.tmp 12) (.tmp 13) rfl Try.underlying72 zeroMsg_run rfl HM1.out rfl HX.out HV.out.1 HV.out.2 ?_) | (refine wpList_store_msg rfl (.tmp 6) (.tmp 15) rfl w1.heap.size zeroC.toArray zeroC rfl rfl HS.out rfl HZL.out HZ1.out ?_; intro w2 hB2 hk2))
    have HB2 : Hid (Blk w2 w.heap.size 39 zeroC.toArray ∧ Below w.heap.size w w2) := Lib.hid (by
      have h1 := (Kept.of ((Below.refl w1.heap.size w1).alloc (Nat.le_refl _) (.cells zeroC.toArray 39)) : Kept (fun b => b = w1.heap.size) w1 _).trans hk2
      have hz := HB.out.2.2
      exact ⟨h1.blk HB.out.1 (by show ¬ w.heap.size = w1.heap.size; omega), HB.out.2.1.trans (h1.below HB.out.2.1.size fun k hk e => by omega)⟩)
    clear hB2 hk2 d2 HS
    go_wp2_with ((refine wpList_store_msg rfl (.tmp 4) (.tmp 19) rfl w.heap.size zeroC.toArray zeroC rfl rfl HB2.out.1 rfl HZL.out HZ1.out ?_; intro w3 hB3 hk3))
    have HL := Lib.hid (load_msg hB3 HZL.out)
    have HG : Hid (Below w.heap.size w w3) := Lib.hid (HB2.out.2.trans (hk3.below HB2.out.2.size fun k hk e => by omega))
    clear hB3 hk3
    go_wp2
    refine bodyPost_ret (results_cell2 rfl rfl HL.out rfl) rfl (HF2.out _ _ ⟨zeroC, rfl, HG.out, zero_cells _ _⟩)
  | some m =>
    obtain ⟨cs, hc1, hc2⟩ := (hM2 x HX.out).2 m hs
    have HV : Hid ((M x).getD (.agg zeroC.toArray) = .agg cs.toArray ∧ (M x).isSome = true) := Lib.hid (by rw [hc1]; exact ⟨rfl, rfl⟩)
    have HM := Lib.hid hM
    have HC := Lib.hid hc2
    have HLEN := Lib.hid (msg_len hc2)
    have HC1 := Lib.hid (CellsD.all hc2)
    clear hM hM2 hs hc1 hc2
    have HF2 := Lib.hid (HF.out m 0)
    simp only
    generalize hQ : PeekMade m 0 w = Q at *
    clear HF hQ
    go_enter Try.func13, Try.ntmps13
    go_upto_region 1 with fail
    have HB : Hid (Blk (w.alloc (.cells zeroC.toArray 39)) w.heap.size 39 zeroC.toArray ∧ Below w.heap.size w (w.alloc (.cells zeroC.toArray 39)) ∧ (w.alloc (.cells zeroC.toArray 39)).heap.size = w.heap.size + 1) := Lib.hid ⟨Blk.new w _ _, (Below.refl _ _).alloc (Nat.le_refl _) _, World.size_alloc _ _⟩
    change Code.wp _ _ _ _ (w.alloc (.cells zeroC.toArray 39))
    generalize hw1 : World.alloc w _ = w1 at HB ⊢
    clear hw1
    have d2 : w1.cell? ⟨n, 2, none⟩ = some (.map (some b)) := (HN.out.on HB.out.2.1).box.cell 2
    have HM1 := Lib.hid (HM.out.on HB.out.2.1)
    have HS : Hid (Blk (w1.alloc (.cells zeroC.toArray 39)) w1.heap.size 39 zeroC.toArray) := Lib.hid (Blk.new w1 _ _)
    go_upto_region 2 with (first | (refine wpList_mapv_ok rfl 72 (.tmp 12) (.tmp 13) rfl Try.underlying72 zeroMsg_run rfl HM1.out rfl HX.out HV.out.1 HV.out.2 ?_) | (refine wpList_store_msg rfl (.tmp 6) (.tmp 15) rfl w1.heap.size zeroC.toArray cs rfl rfl HS.out rfl HLEN.out HC1.out ?_; intro w2 hB2 hk2))
    have HB2 : Hid (Blk w2 w.heap.size 39 zeroC.toArray ∧ Below w.heap.size w w2 ∧ Blk w2 w1.heap.size 39 cs.toArray ∧ w.heap.size ≠ w1.heap.size) := Lib.hid (by
      have h1 := (Kept.of ((Below.refl w1.heap.size w1).alloc (Nat.le_refl _) (.cells zeroC.toArray 39)) : Kept (fun b => b = w1.heap.size) w1 _).trans hk2
      have hz := HB.out.2.2
      exact ⟨h1.blk HB.out.1 (by show ¬ w.heap.size = w1.heap.size; omega), HB.out.2.1.trans (h1.below HB.out.2.1.size fun k hk e => by omega), hB2, by omega⟩)
    have HCL := Lib.hid (message_any m cs w2 (HC.out.on HB2.out.2.1))
    clear hB2 hk2 d2 HS
    go_wp2_with (first | (refine wpList_load_msg rfl (.tmp 6) rfl w1.heap.size cs rfl HB2.out.2.2.1 HLEN.out ?_))
    refine HCL.out.mono ?_
    rintro e w3 ⟨cs', rfl, hb3, hc3⟩
    have HC3 := Lib.hid hc3
    have HB3 : Hid (Blk w3 w.heap.size 39 zeroC.toArray ∧ Below w.heap.size w w3) := Lib.hid ⟨HB2.out.1.on hb3, HB2.out.2.1.trans (hb3.mono HB2.out.2.1.size)⟩
    have HLEN3 := Lib.hid (msg_len hc3)
    have HC13 := Lib.hid (CellsD.all hc3)
    have HSZ : Hid (w.heap.size < w2.heap.size) := Lib.hid HB2.out.1.lt
    clear hb3 hc3 HCL
    go_wp2_with ((refine wpList_store_msg rfl (.tmp 4) (.tmp 21) rfl w.heap.size zeroC.toArray cs' rfl rfl HB3.out.1 rfl HLEN3.out HC13.out ?_; intro w4 hB4 hk4))
    have HL := Lib.hid (load_msg hB4 HLEN3.out)
    have HG : Hid (Below w.heap.size w w4 ∧ CellsD (fun k => w.heap.size ≤ k) w4 cs' (msgD m)) := Lib.hid ⟨HB3.out.2.trans (hk4.below HB3.out.2.size fun k hk e => by omega), HC3.out.1, fun i u d e1 e2 => ((HC3.out.2 i u d e1 e2).kept hk4 fun k hk e => by have := HSZ.out; omega).mono fun k hk _ => by have := HSZ.out; omega⟩
    clear hB4 hk4
    go_wp2
    refine bodyPost_ret (results_cell2 rfl rfl HL.out rfl) rfl (HF2.out _ _ ⟨cs', rfl, HG.out.1, HG.out.2⟩)
end
end Go.Proofs.Ytmcdmcnbnnfhnaa
