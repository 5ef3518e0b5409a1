/-
  Chapter 28: spoil: it only writes into the message's memory, and keeps the kinds of all cells.
-/
import Derived.Test.YtmcdmcnbnnfhnaaVi
import Derived.Test.YtmcdmcnbnnfhnaaVd
import Derived.Test.YtmcdmcnbnnfhnaaSg
namespace Go.Proofs.Ytmcdmcnbnnfhnaa
open Go.RowKit
set_option maxRecDepth 100000

theorem range8 {w : World} {b o : Nat} {v0 v1 v2 v3 v4 v5 v6 v7 : Value} (h0 : w.cell? ⟨b, o, none⟩ = some v0) (h1 : w.cell? ⟨b, o + 1, none⟩ = some v1) (h2 : w.cell? ⟨b, o + 2, none⟩ = some v2) (h3 : w.cell? ⟨b, o + 3, none⟩ = some v3) (h4 : w.cell? ⟨b, o + 4, none⟩ = some v4) (h5 : w.cell? ⟨b, o + 5, none⟩ = some v5) (h6 : w.cell? ⟨b, o + 6, none⟩ = some v6) (h7 : w.cell? ⟨b, o + 7, none⟩ = some v7) : w.rangeAt b o [v0, v1, v2, v3, v4, v5, v6, v7] := fun q u hu => by
  match q, hu with
  | 0, hu => exact h0.trans hu
  | 1, hu => exact h1.trans hu
  | 2, hu => exact h2.trans hu
  | 3, hu => exact h3.trans hu
  | 4, hu => exact h4.trans hu
  | 5, hu => exact h5.trans hu
  | 6, hu => exact h6.trans hu
  | 7, hu => exact h7.trans hu
  | q + 8, hu => simp at hu
set_option maxHeartbeats 16000000 in
theorem spoil_any {P : Nat → Prop} (m : MsgM) (cs : List Value) (W : World) (h : CellsD P W cs (msgD m)) : Calls Try.prog 12 #[.agg cs.toArray] W (VoidK P W) := by
  have hh : CellsD (fun k => P k ∧ k < W.heap.size) W cs (msgD m) := ⟨h.1, fun i u d e1 e2 => (h.2 i u d e1 e2).lt⟩
  clear h
  have HF : Hid (∀ e w', e = .returned (.tuple #[]) ∧ KindK P W w' → VoidK P W e w') := Lib.hid fun _ _ h => h
  generalize hQ : VoidK P W = Q at *
  clear hQ
  obtain ⟨v30, cs3, rfl, r30, qq30⟩ := CellsD.cons hh
  clear hh
  have e30 := r30.i
  subst e30
  clear r30
  obtain ⟨v31, cs3, rfl, r31, qq31⟩ := CellsD.cons qq30
  clear qq30
  have e31 := r31.i
  subst e31
  clear r31
  obtain ⟨v32, cs3, rfl, r32, qq32⟩ := CellsD.cons qq31
  clear qq31
  have e32 := r32.i
  subst e32
  clear r32
  obtain ⟨v33, cs3, rfl, r33, qq33⟩ := CellsD.cons qq32
  clear qq32
  have e33 := r33.i
  subst e33
  clear r33
  obtain ⟨v34, cs3, rfl, r34, qq34⟩ := CellsD.cons qq33
  clear qq33
  have e34 := r34.i
  subst e34
  clear r34
  obtain ⟨v35, cs3, rfl, r35, qq35⟩ := CellsD.cons qq34
  clear qq34
  have e35 := r35.i
  subst e35
  clear r35
  obtain ⟨v36, cs3, rfl, r36, qq36⟩ := CellsD.cons qq35
  clear qq35
  obtain ⟨s36, t36, rfl, -, -, -, hL36⟩ := ReadsD.slcM (f := ridD) r36
  obtain ⟨v37, cs3, rfl, r37, qq37⟩ := CellsD.cons qq36
  clear qq36
  obtain ⟨s37, t37, rfl, -, -, -, hL37⟩ := ReadsD.slcM (f := baseD) r37
  obtain ⟨v38, cs3, rfl, r38, qq38⟩ := CellsD.cons qq37
  clear qq37
  obtain ⟨s38, t38, rfl, -, -, -, hL38⟩ := ReadsD.slcM (f := cmdD) r38
  obtain ⟨v39, cs3, rfl, r39, qq39⟩ := CellsD.cons qq38
  clear qq38
  obtain ⟨s39, t39, rfl, -, -, -, hL39⟩ := ReadsD.slcM (f := ackD) r39
  obtain ⟨v310, cs3, rfl, r310, qq310⟩ := CellsD.cons qq39
  clear qq39
  obtain ⟨s310, t310, rfl, -, -, -, hL310⟩ := ReadsD.slcM (f := proofD) r310
  obtain ⟨v311, cs3, rfl, r311, qq311⟩ := CellsD.cons qq310
  clear qq310
  obtain ⟨s311, t311, rfl, -, -, -, hL311⟩ := ReadsD.slcM (f := digD) r311
  obtain ⟨v312, cs3, rfl, r312, qq312⟩ := CellsD.cons qq311
  clear qq311
  obtain ⟨s312, t312, rfl, -, -, -, hL312⟩ := ReadsD.slcM (f := fun s => [sD s]) r312
  obtain ⟨v313, cs3, rfl, r313, qq313⟩ := CellsD.cons qq312
  clear qq312
  have e313 := r313.i
  subst e313
  clear r313
  obtain ⟨v314, cs3, rfl, r314, qq314⟩ := CellsD.cons qq313
  clear qq313
  obtain ⟨s314, t314, rfl, -, -, -, hL314⟩ := ReadsD.slcM (f := itemD) r314
  have en3 := CellsD.nil qq314
  subst en3
  clear qq314
  have HE8 := Lib.hid r38
  have HE10 := Lib.hid r310
  have HE12 := Lib.hid r312
  have HE14 := Lib.hid r314
  clear r36 r37 r38 r39 r310 r311 r312 r314
  have HB : Hid (Blk (W.alloc (.cells #[.int .i64 m.kind, .int .i64 m.frm, .int .i64 m.to, .int .i64 m.r1, .int .i64 m.r2, .int .i64 m.r3, .slice s36 m.reads.length t36, .slice s37 m.base.length t37, .slice s38 m.state.length t38, .slice s39 m.acks.length t39, .slice s310 m.proof.length t310, .slice s311 m.digs.length t311, .slice s312 m.objs.length t312, .int .i64 m.seq, .slice s314 m.items.length t314] 39)) W.heap.size 39 #[.int .i64 m.kind, .int .i64 m.frm, .int .i64 m.to, .int .i64 m.r1, .int .i64 m.r2, .int .i64 m.r3, .slice s36 m.reads.length t36, .slice s37 m.base.length t37, .slice s38 m.state.length t38, .slice s39 m.acks.length t39, .slice s310 m.proof.length t310, .slice s311 m.digs.length t311, .slice s312 m.objs.length t312, .int .i64 m.seq, .slice s314 m.items.length t314] ∧ Below W.heap.size W (W.alloc (.cells #[.int .i64 m.kind, .int .i64 m.frm, .int .i64 m.to, .int .i64 m.r1, .int .i64 m.r2, .int .i64 m.r3, .slice s36 m.reads.length t36, .slice s37 m.base.length t37, .slice s38 m.state.length t38, .slice s39 m.acks.length t39, .slice s310 m.proof.length t310, .slice s311 m.digs.length t311, .slice s312 m.objs.length t312, .int .i64 m.seq, .slice s314 m.items.length t314] 39)) ∧ (W.alloc (.cells #[.int .i64 m.kind, .int .i64 m.frm, .int .i64 m.to, .int .i64 m.r1, .int .i64 m.r2, .int .i64 m.r3, .slice s36 m.reads.length t36, .slice s37 m.base.length t37, .slice s38 m.state.length t38, .slice s39 m.acks.length t39, .slice s310 m.proof.length t310, .slice s311 m.digs.length t311, .slice s312 m.objs.length t312, .int .i64 m.seq, .slice s314 m.items.length t314] 39)).heap.size = W.heap.size + 1) := Lib.hid ⟨Blk.new W _ _, (Below.refl _ _).alloc (Nat.le_refl _) _, World.size_alloc _ _⟩
  go_enter Try.func12, Try.ntmps12
  go_upto_region 1 with fail
  generalize hw0 : World.alloc W _ = w0 at HB ⊢
  clear hw0
  have HBX := Lib.hid (fun (wr : World) (hk : KindK (fun k => P k ∧ k < W.heap.size) w0 wr) => hk.blk HB.out.1 fun h => Nat.lt_irrefl _ h.2)
  have HI0 : Hid (KindK (fun k => P k ∧ k < W.heap.size) w0 w0) := Lib.hid (KindK.refl _ _)
  have HFI : Hid (∀ w', KindK (fun k => P k ∧ k < W.heap.size) w0 w' → Q (.returned (.tuple #[])) w') := Lib.hid fun w' hk => HF.out _ _ ⟨rfl, (KindK.of HB.out.2.1).trans (hk.mono fun k h => h.1)⟩
  have HSZ : Hid (W.heap.size < w0.heap.size) := Lib.hid HB.out.1.lt
  replace HE8 := Lib.hid (HE8.out.on HB.out.2.1)
  replace HE10 := Lib.hid (HE10.out.on HB.out.2.1)
  replace HE12 := Lib.hid (HE12.out.on HB.out.2.1)
  replace HE14 := Lib.hid (HE14.out.on HB.out.2.1)
  clear HF HB
  go_wp2
  go_loopg [2] m.state.length (fun mm i wr => ∃ k : Nat, mm + k = m.state.length ∧ i = .int .i64 k ∧ KindK (fun k => P k ∧ k < W.heap.size) w0 wr)
  case atStart => exact ⟨0, by omega, rfl, HI0.out⟩
  case round =>
    rename World => w2
    obtain ⟨k1, hmk, rfl, hb⟩ := hrel
    have HM3 := Lib.hid hmk
    have HK4 := Lib.hid hb
    have hkk1 : (0 : Int) ≤ (k1 : Int) := by omega
    have hjk1 : k1 ≤ m.state.length := by omega
    clear hmk hb
    by_cases hlt : k1 < m.state.length
    · have hik1 : (k1 : Int) < m.state.length := by omega
      obtain ⟨bk1, ok1, capk1, usk1, ev, hP, hbl, hn, hc, hf, hcs⟩ := ReadsD.itemF (f := cmdD) HE8.out hlt
      injection ev with e1 e2 e3
      subst e1
      clear e2 e3
      generalize m.state[k1] = xk1 at *
      have HL5 := Lib.hid hlt
      clear hlt
      obtain ⟨vk1_0, csk1_, rfl, rk1_0, qqk1_0⟩ := CellsD.cons hcs
      clear hcs
      have ek1_0 := rk1_0.i
      subst ek1_0
      clear rk1_0
      obtain ⟨vk1_1, csk1_, rfl, rk1_1, qqk1_1⟩ := CellsD.cons qqk1_0
      clear qqk1_0
      have ek1_1 := rk1_1.i
      subst ek1_1
      clear rk1_1
      obtain ⟨vk1_2, csk1_, rfl, rk1_2, qqk1_2⟩ := CellsD.cons qqk1_1
      clear qqk1_1
      have ek1_2 := rk1_2.i
      subst ek1_2
      clear rk1_2
      obtain ⟨vk1_3, csk1_, rfl, rk1_3, qqk1_3⟩ := CellsD.cons qqk1_2
      clear qqk1_2
      obtain ⟨sk1_3, tk1_3, rfl, -, -, -, hLk1_3⟩ := ReadsD.slcM (f := wrD) rk1_3
      obtain ⟨vk1_4, csk1_, rfl, rk1_4, qqk1_4⟩ := CellsD.cons qqk1_3
      clear qqk1_3
      have ek1_4 := rk1_4.i
      subst ek1_4
      clear rk1_4
      obtain ⟨vk1_5, csk1_, rfl, rk1_5, qqk1_5⟩ := CellsD.cons qqk1_4
      clear qqk1_4
      obtain ⟨sk1_5, tk1_5, rfl, -⟩ := rk1_5.bslc
      have enk1_ := CellsD.nil qqk1_5
      subst enk1_
      clear qqk1_5
      have HC6 := Lib.hid (And.intro hP (And.intro hbl (And.intro hc hf)))
      have HRk1_3 := Lib.hid rk1_3
      clear rk1_3
      have HRk1_5 := Lib.hid rk1_5
      clear rk1_5
      clear hP hbl hn hc hf
      have d7 : w2.cell? ⟨W.heap.size, 8, none⟩ = some (.slice (some ⟨bk1, ok1, none⟩) m.state.length t38) := (HBX.out w2 HK4.out).cell 8
      have d8 : w2.cell? ⟨bk1, ok1 + k1 * 6 + 5, none⟩ = some (.slice sk1_5 xk1.tag.length tk1_5) := (HK4.out).slc HC6.out.2.1 (HC6.out.2.2.1 5 _ rfl)
      have HCL11 := Lib.hid (flip_any w0 w2 _ xk1.tag HRk1_5.out (HK4.out))
      go_wp2_with fail
      refine HCL11.out.mono ?_
      rintro e w9 ⟨rfl, hkk⟩
      have HK10 := Lib.hid (HK4.out.trans hkk)
      clear HCL11 hkk
      clear d7 d8
      go_wp2
      obtain ⟨G, hG⟩ : ∃ G, G = gk := ⟨_, rfl⟩
      subst hG
      go_loopg [3] xk1.wr.length (fun mm i wr => ∃ k : Nat, mm + k = xk1.wr.length ∧ i = .int .i64 k ∧ KindK (fun k => P k ∧ k < W.heap.size) w0 wr)
      case atStart => exact ⟨0, by omega, rfl, HK10.out⟩
      case round =>
        rename World => w13
        obtain ⟨k12, hmk, rfl, hb⟩ := hrel
        have HM14 := Lib.hid hmk
        have HK15 := Lib.hid hb
        have hkk12 : (0 : Int) ≤ (k12 : Int) := by omega
        have hjk12 : k12 ≤ xk1.wr.length := by omega
        clear hmk hb
        by_cases hlt : k12 < xk1.wr.length
        · have hik12 : (k12 : Int) < xk1.wr.length := by omega
          obtain ⟨bk12, ok12, capk12, usk12, ev, hP, hbl, hn, hc, hf, hcs⟩ := ReadsD.itemF (f := wrD) HRk1_3.out hlt
          injection ev with e1 e2 e3
          subst e1
          clear e2 e3
          generalize xk1.wr[k12] = xk12 at *
          have HL16 := Lib.hid hlt
          clear hlt
          obtain ⟨vk12_0, csk12_, rfl, rk12_0, qqk12_0⟩ := CellsD.cons hcs
          clear hcs
          have ek12_0 : vk12_0 = .string (toB xk12.obj) := rk12_0.s
          subst ek12_0
          clear rk12_0
          obtain ⟨vk12_1, csk12_, rfl, rk12_1, qqk12_1⟩ := CellsD.cons qqk12_0
          clear qqk12_0
          obtain ⟨sk12_1, tk12_1, rfl, -⟩ := rk12_1.bslc
          have enk12_ := CellsD.nil qqk12_1
          subst enk12_
          clear qqk12_1
          have HC17 := Lib.hid (And.intro hP (And.intro hbl (And.intro hc hf)))
          have HRk12_1 := Lib.hid rk12_1
          clear rk12_1
          clear hP hbl hn hc hf
          have d18 : w13.cell? ⟨W.heap.size, 8, none⟩ = some (.slice (some ⟨bk1, ok1, none⟩) m.state.length t38) := (HBX.out w13 HK15.out).cell 8
          have d19 : w13.cell? ⟨bk1, ok1 + k1 * 6 + 3, none⟩ = some (.slice (some ⟨bk12, ok12, none⟩) xk1.wr.length tk1_3) := (HK15.out).slc HC6.out.2.1 (HC6.out.2.2.1 3 _ rfl)
          have d20 : w13.cell? ⟨bk12, ok12 + k12 * 2 + 1, none⟩ = some (.slice sk12_1 xk12.delta.length tk12_1) := (HK15.out).slc HC17.out.2.1 (HC17.out.2.2.1 1 _ rfl)
          have HCL23 := Lib.hid (flip_any w0 w13 _ xk12.delta HRk12_1.out (HK15.out))
          go_wp2_with fail
          refine HCL23.out.mono ?_
          rintro e w21 ⟨rfl, hkk⟩
          have HK22 := Lib.hid (HK15.out.trans hkk)
          clear HCL23 hkk
          clear d18 d19 d20
          have d24 : w21.cell? ⟨W.heap.size, 8, none⟩ = some (.slice (some ⟨bk1, ok1, none⟩) m.state.length t38) := (HBX.out w21 HK22.out).cell 8
          have d25 : w21.cell? ⟨bk1, ok1 + k1 * 6 + 3, none⟩ = some (.slice (some ⟨bk12, ok12, none⟩) xk1.wr.length tk1_3) := (HK22.out).slc HC6.out.2.1 (HC6.out.2.2.1 3 _ rfl)
          obtain ⟨a27, d26⟩ : ∃ a, w21.cell? ⟨bk12, ok12 + k12 * 2, none⟩ = some (.string a) := (HK22.out).str HC17.out.2.1 (HC17.out.2.2.1 0 _ rfl)
          have d28 : w21.frozen? ⟨bk12, ok12 + k12 * 2, none⟩ = false := (HK22.out).free HC17.out.2.1 (HC17.out.2.2.2 0 (by omega))
          have d29 : bk12 < w21.heap.size := (HK22.out).lt HC17.out.2.1
          go_wp2
          go_roundg (xk1.wr.length - (k12 + 1))
          case measure => have := HM14.out; have := HL16.out; omega
          case rel => exact ⟨k12 + 1, by have := HL16.out; omega, by go_num, HK22.out.trans (KindK.set HC17.out.1 d26 (SK.str _ _))⟩
        · have hik12 : ¬ (k12 : Int) < xk1.wr.length := by omega
          have d30 : w13.cell? ⟨W.heap.size, 8, none⟩ = some (.slice (some ⟨bk1, ok1, none⟩) m.state.length t38) := (HBX.out w13 HK15.out).cell 8
          have d31 : w13.cell? ⟨bk1, ok1 + k1 * 6 + 3, none⟩ = some (.slice sk1_3 xk1.wr.length tk1_3) := (HK15.out).slc HC6.out.2.1 (HC6.out.2.2.1 3 _ rfl)
          have d32 : w13.cell? ⟨W.heap.size, 8, none⟩ = some (.slice (some ⟨bk1, ok1, none⟩) m.state.length t38) := (HBX.out w13 HK15.out).cell 8
          have d33 : w13.cell? ⟨bk1, ok1 + k1 * 6 + 3, none⟩ = some (.slice sk1_3 xk1.wr.length tk1_3) := (HK15.out).slc HC6.out.2.1 (HC6.out.2.2.1 3 _ rfl)
          obtain ⟨a35, d34⟩ : ∃ a, w13.cell? ⟨bk1, ok1 + k1 * 6 + 1, none⟩ = some (.int .i64 a) := (HK15.out).int HC6.out.2.1 (HC6.out.2.2.1 1 _ rfl)
          have d36 : w13.frozen? ⟨bk1, ok1 + k1 * 6 + 1, none⟩ = false := (HK15.out).free HC6.out.2.1 (HC6.out.2.2.2 1 (by omega))
          have d37 : bk1 < w13.heap.size := (HK15.out).lt HC6.out.2.1
          go_wp2
          go_roundg (m.state.length - (k1 + 1))
          case measure => have := HM3.out; have := HL5.out; omega
          case rel => exact ⟨k1 + 1, by have := HL5.out; omega, by go_num, HK15.out.trans (KindK.set HC6.out.1 d34 (SK.int _ _ _))⟩
    · have hik1 : ¬ (k1 : Int) < m.state.length := by omega
      have d38 : w2.cell? ⟨W.heap.size, 8, none⟩ = some (.slice s38 m.state.length t38) := (HBX.out w2 HK4.out).cell 8
      go_wp2
      go_loopg [4] m.proof.length (fun mm i wr => ∃ k : Nat, mm + k = m.proof.length ∧ i = .int .i64 k ∧ KindK (fun k => P k ∧ k < W.heap.size) w0 wr)
      case atStart => exact ⟨0, by omega, rfl, HK4.out⟩
      case round =>
        rename World => w40
        obtain ⟨k39, hmk, rfl, hb⟩ := hrel
        have HM41 := Lib.hid hmk
        have HK42 := Lib.hid hb
        have hkk39 : (0 : Int) ≤ (k39 : Int) := by omega
        have hjk39 : k39 ≤ m.proof.length := by omega
        clear hmk hb
        by_cases hlt : k39 < m.proof.length
        · have hik39 : (k39 : Int) < m.proof.length := by omega
          obtain ⟨bk39, ok39, capk39, usk39, ev, hP, hbl, hn, hc, hf, hcs⟩ := ReadsD.itemF (f := proofD) HE10.out hlt
          injection ev with e1 e2 e3
          subst e1
          clear e2 e3
          generalize m.proof[k39] = xk39 at *
          have HL43 := Lib.hid hlt
          clear hlt
          obtain ⟨vk39_0, csk39_, rfl, rk39_0, qqk39_0⟩ := CellsD.cons hcs
          clear hcs
          obtain ⟨sk39_0, tk39_0, rfl, -, -, -, hLk39_0⟩ := ReadsD.slcM (f := certD) rk39_0
          obtain ⟨vk39_1, csk39_, rfl, rk39_1, qqk39_1⟩ := CellsD.cons qqk39_0
          clear qqk39_0
          have ek39_1 := rk39_1.i
          subst ek39_1
          clear rk39_1
          obtain ⟨vk39_2, csk39_, rfl, rk39_2, qqk39_2⟩ := CellsD.cons qqk39_1
          clear qqk39_1
          have ek39_2 := rk39_2.i
          subst ek39_2
          clear rk39_2
          obtain ⟨vk39_3, csk39_, rfl, rk39_3, qqk39_3⟩ := CellsD.cons qqk39_2
          clear qqk39_2
          have ek39_3 := rk39_3.i
          subst ek39_3
          clear rk39_3
          obtain ⟨vk39_4, csk39_, rfl, rk39_4, qqk39_4⟩ := CellsD.cons qqk39_3
          clear qqk39_3
          obtain ⟨sk39_4, tk39_4, rfl, -, -, -, hLk39_4⟩ := ReadsD.slcM (f := ridD) rk39_4
          obtain ⟨vk39_5, csk39_, rfl, rk39_5, qqk39_5⟩ := CellsD.cons qqk39_4
          clear qqk39_4
          obtain ⟨sk39_5, tk39_5, rfl, -, -, -, hLk39_5⟩ := ReadsD.slcM (f := cmdD) rk39_5
          obtain ⟨vk39_6, csk39_, rfl, rk39_6, qqk39_6⟩ := CellsD.cons qqk39_5
          clear qqk39_5
          obtain ⟨sk39_6, tk39_6, rfl, -, -, -, hLk39_6⟩ := ReadsD.slcM (f := cmdD) rk39_6
          obtain ⟨vk39_7, csk39_, rfl, rk39_7, qqk39_7⟩ := CellsD.cons qqk39_6
          clear qqk39_6
          have ek39_7 := rk39_7.i
          subst ek39_7
          clear rk39_7
          obtain ⟨vk39_8, csk39_, rfl, rk39_8, qqk39_8⟩ := CellsD.cons qqk39_7
          clear qqk39_7
          obtain ⟨sk39_8, tk39_8, rfl, -⟩ := rk39_8.bslc
          obtain ⟨vk39_9, csk39_, rfl, rk39_9, qqk39_9⟩ := CellsD.cons qqk39_8
          clear qqk39_8
          obtain ⟨sk39_9, tk39_9, rfl, -, -, -, hLk39_9⟩ := ReadsD.slcM (f := ackD) rk39_9
          have enk39_ := CellsD.nil qqk39_9
          subst enk39_
          clear qqk39_9
          have HC44 := Lib.hid (And.intro hP (And.intro hbl (And.intro hc hf)))
          have HRk39_0 := Lib.hid rk39_0
          clear rk39_0
          have HRk39_4 := Lib.hid rk39_4
          clear rk39_4
          have HRk39_5 := Lib.hid rk39_5
          clear rk39_5
          have HRk39_6 := Lib.hid rk39_6
          clear rk39_6
          have HRk39_8 := Lib.hid rk39_8
          clear rk39_8
          have HRk39_9 := Lib.hid rk39_9
          clear rk39_9
          clear hP hbl hn hc hf
          have d45 : w40.cell? ⟨W.heap.size, 10, none⟩ = some (.slice (some ⟨bk39, ok39, none⟩) m.proof.length t310) := (HBX.out w40 HK42.out).cell 10
          obtain ⟨a47, d46⟩ : ∃ a, w40.cell? ⟨bk39, ok39 + k39 * 10 + 1, none⟩ = some (.int .i64 a) := (HK42.out).int HC44.out.2.1 (HC44.out.2.2.1 1 _ rfl)
          obtain ⟨a49, d48⟩ : ∃ a, w40.cell? ⟨bk39, ok39 + k39 * 10 + 2, none⟩ = some (.int .i64 a) := (HK42.out).int HC44.out.2.1 (HC44.out.2.2.1 2 _ rfl)
          obtain ⟨a51, d50⟩ : ∃ a, w40.cell? ⟨bk39, ok39 + k39 * 10 + 3, none⟩ = some (.int .i64 a) := (HK42.out).int HC44.out.2.1 (HC44.out.2.2.1 3 _ rfl)
          have d52 : w40.cell? ⟨bk39, ok39 + k39 * 10 + 4, none⟩ = some (.slice sk39_4 xk39.last.claim.reads.length tk39_4) := (HK42.out).slc HC44.out.2.1 (HC44.out.2.2.1 4 _ rfl)
          have d53 : w40.cell? ⟨bk39, ok39 + k39 * 10 + 5, none⟩ = some (.slice sk39_5 xk39.last.claim.base.length tk39_5) := (HK42.out).slc HC44.out.2.1 (HC44.out.2.2.1 5 _ rfl)
          have d54 : w40.cell? ⟨bk39, ok39 + k39 * 10 + 6, none⟩ = some (.slice sk39_6 xk39.last.claim.conf.length tk39_6) := (HK42.out).slc HC44.out.2.1 (HC44.out.2.2.1 6 _ rfl)
          obtain ⟨a56, d55⟩ : ∃ a, w40.cell? ⟨bk39, ok39 + k39 * 10 + 7, none⟩ = some (.int .i64 a) := (HK42.out).int HC44.out.2.1 (HC44.out.2.2.1 7 _ rfl)
          have d57 : w40.cell? ⟨bk39, ok39 + k39 * 10 + 8, none⟩ = some (.slice sk39_8 xk39.last.claim.root.length tk39_8) := (HK42.out).slc HC44.out.2.1 (HC44.out.2.2.1 8 _ rfl)
          have HRG58 := Lib.hid (range8 (b := bk39) (o := ok39 + k39 * 10 + 1) d46 d48 d50 d52 d53 d54 d55 d57)
          clear d46 d48 d50 d52 d53 d54 d55 d57
          have HS59 : Hid (Blk (w40.alloc (.cells #[.int .i64 0, .int .i64 0, .int .i64 0, .slice none 0 0, .slice none 0 0, .slice none 0 0, .int .i64 0, .slice none 0 0] 85)) w40.heap.size 85 #[.int .i64 0, .int .i64 0, .int .i64 0, .slice none 0 0, .slice none 0 0, .slice none 0 0, .int .i64 0, .slice none 0 0]) := Lib.hid (Blk.new w40 _ _)
          go_upto_region 15 with (first | (refine wpList_load_mid rfl 85 (.tmp 74) rfl bk39 (ok39 + k39 * 10 + 1) rfl _ _ HRG58.out Try.underlying85 rfl claim_size ?_) | (refine wpList_store_box rfl 85 (.tmp 5) (.tmp 75) rfl w40.heap.size 85 _ #[.int .i64 a47, .int .i64 a49, .int .i64 a51, .slice sk39_4 xk39.last.claim.reads.length tk39_4, .slice sk39_5 xk39.last.claim.base.length tk39_5, .slice sk39_6 xk39.last.claim.conf.length tk39_6, .int .i64 a56, .slice sk39_8 xk39.last.claim.root.length tk39_8] rfl rfl HS59.out claim_size rfl (by simp [Value.oneCell']) ?_; intro w60 hB2 hk2))
          have HN61 : Hid (KindK (fun k => P k ∧ k < W.heap.size) w0 w60 ∧ Blk w60 w40.heap.size 85 #[.int .i64 a47, .int .i64 a49, .int .i64 a51, .slice sk39_4 xk39.last.claim.reads.length tk39_4, .slice sk39_5 xk39.last.claim.base.length tk39_5, .slice sk39_6 xk39.last.claim.conf.length tk39_6, .int .i64 a56, .slice sk39_8 xk39.last.claim.root.length tk39_8] ∧ W.heap.size ≤ w40.heap.size) := Lib.hid ⟨HK42.out.trans (KindK.of (((Kept.of ((Below.refl w40.heap.size w40).alloc (Nat.le_refl _) (.cells #[.int .i64 0, .int .i64 0, .int .i64 0, .slice none 0 0, .slice none 0 0, .slice none 0 0, .int .i64 0, .slice none 0 0] 85)) : Kept (fun b => b = w40.heap.size) w40 _).trans hk2).below (Nat.le_refl _) fun k hk e => by omega)), hB2, by have h1 := HSZ.out; have h2 := HK42.out.size; omega⟩
          clear hB2 hk2 HS59 HRG58 d45
          generalize w40.heap.size = g62 at *
          have HCX63 := Lib.hid (fun (wr : World) (hk : KindK (fun k => P k ∧ k < W.heap.size) w60 wr) => hk.blk HN61.out.2.1 fun h => by have h1 := HN61.out.2.2; have h2 := h.2; omega)
          have HI64 : Hid (KindK (fun k => P k ∧ k < W.heap.size) w60 w60) := Lib.hid (KindK.refl _ _)
          have d65 : w60.cell? ⟨g62, 7, none⟩ = some (.slice sk39_8 xk39.last.claim.root.length tk39_8) := (HCX63.out w60 HI64.out).cell 7
          have HCL68 := Lib.hid (flip_any w0 w60 _ xk39.last.claim.root HRk39_8.out ((HN61.out.1.trans HI64.out)))
          go_wp2_with fail
          refine HCL68.out.mono ?_
          rintro e w66 ⟨rfl, hkk⟩
          have HK67 := Lib.hid (HI64.out.trans hkk)
          clear HCL68 hkk
          clear d65
          go_wp2
          obtain ⟨G, hG⟩ : ∃ G, G = gk := ⟨_, rfl⟩
          subst hG
          go_loopg [6] xk39.last.claim.reads.length (fun mm i wr => ∃ k : Nat, mm + k = xk39.last.claim.reads.length ∧ i = .int .i64 k ∧ KindK (fun k => P k ∧ k < W.heap.size) w60 wr)
          case atStart => exact ⟨0, by omega, rfl, HK67.out⟩
          case round =>
            rename World => w70
            obtain ⟨k69, hmk, rfl, hb⟩ := hrel
            have HM71 := Lib.hid hmk
            have HK72 := Lib.hid hb
            have hkk69 : (0 : Int) ≤ (k69 : Int) := by omega
            have hjk69 : k69 ≤ xk39.last.claim.reads.length := by omega
            clear hmk hb
            by_cases hlt : k69 < xk39.last.claim.reads.length
            · have hik69 : (k69 : Int) < xk39.last.claim.reads.length := by omega
              obtain ⟨bk69, ok69, capk69, usk69, ev, hP, hbl, hn, hc, hf, hcs⟩ := ReadsD.itemF (f := ridD) HRk39_4.out hlt
              injection ev with e1 e2 e3
              subst e1
              clear e2 e3
              generalize xk39.last.claim.reads[k69] = xk69 at *
              have HL73 := Lib.hid hlt
              clear hlt
              obtain ⟨vk69_0, csk69_, rfl, rk69_0, qqk69_0⟩ := CellsD.cons hcs
              clear hcs
              have ek69_0 := rk69_0.i
              subst ek69_0
              clear rk69_0
              obtain ⟨vk69_1, csk69_, rfl, rk69_1, qqk69_1⟩ := CellsD.cons qqk69_0
              clear qqk69_0
              have ek69_1 := rk69_1.i
              subst ek69_1
              clear rk69_1
              obtain ⟨vk69_2, csk69_, rfl, rk69_2, qqk69_2⟩ := CellsD.cons qqk69_1
              clear qqk69_1
              obtain ⟨sk69_2, tk69_2, rfl, -⟩ := rk69_2.bslc
              have enk69_ := CellsD.nil qqk69_2
              subst enk69_
              clear qqk69_2
              have HC74 := Lib.hid (And.intro hP (And.intro hbl (And.intro hc hf)))
              have HRk69_2 := Lib.hid rk69_2
              clear rk69_2
              clear hP hbl hn hc hf
              have d75 : w70.cell? ⟨g62, 3, none⟩ = some (.slice (some ⟨bk69, ok69, none⟩) xk39.last.claim.reads.length tk39_4) := (HCX63.out w70 HK72.out).cell 3
              have d76 : w70.cell? ⟨bk69, ok69 + k69 * 3 + 2, none⟩ = some (.slice sk69_2 xk69.tag.length tk69_2) := ((HN61.out.1.trans HK72.out)).slc HC74.out.2.1 (HC74.out.2.2.1 2 _ rfl)
              have HCL79 := Lib.hid (flip_any w0 w70 _ xk69.tag HRk69_2.out ((HN61.out.1.trans HK72.out)))
              go_wp2_with fail
              refine HCL79.out.mono ?_
              rintro e w77 ⟨rfl, hkk⟩
              have HK78 := Lib.hid (HK72.out.trans hkk)
              clear HCL79 hkk
              clear d75 d76
              have d80 : w77.cell? ⟨g62, 3, none⟩ = some (.slice (some ⟨bk69, ok69, none⟩) xk39.last.claim.reads.length tk39_4) := (HCX63.out w77 HK78.out).cell 3
              obtain ⟨a82, d81⟩ : ∃ a, w77.cell? ⟨bk69, ok69 + k69 * 3 + 1, none⟩ = some (.int .i64 a) := ((HN61.out.1.trans HK78.out)).int HC74.out.2.1 (HC74.out.2.2.1 1 _ rfl)
              have d83 : w77.frozen? ⟨bk69, ok69 + k69 * 3 + 1, none⟩ = false := ((HN61.out.1.trans HK78.out)).free HC74.out.2.1 (HC74.out.2.2.2 1 (by omega))
              have d84 : bk69 < w77.heap.size := ((HN61.out.1.trans HK78.out)).lt HC74.out.2.1
              go_wp2
              go_roundg (xk39.last.claim.reads.length - (k69 + 1))
              case measure => have := HM71.out; have := HL73.out; omega
              case rel => exact ⟨k69 + 1, by have := HL73.out; omega, by go_num, HK78.out.trans (KindK.set HC74.out.1 d81 (SK.int _ _ _))⟩
            · have hik69 : ¬ (k69 : Int) < xk39.last.claim.reads.length := by omega
              have d85 : w70.cell? ⟨g62, 3, none⟩ = some (.slice sk39_4 xk39.last.claim.reads.length tk39_4) := (HCX63.out w70 HK72.out).cell 3
              go_wp2
              obtain ⟨G, hG⟩ : ∃ G, G = gk := ⟨_, rfl⟩
              subst hG
              go_loopg [7] xk39.last.claim.conf.length (fun mm i wr => ∃ k : Nat, mm + k = xk39.last.claim.conf.length ∧ i = .int .i64 k ∧ KindK (fun k => P k ∧ k < W.heap.size) w60 wr)
              case atStart => exact ⟨0, by omega, rfl, HK72.out⟩
              case round =>
                rename World => w87
                obtain ⟨k86, hmk, rfl, hb⟩ := hrel
                have HM88 := Lib.hid hmk
                have HK89 := Lib.hid hb
                have hkk86 : (0 : Int) ≤ (k86 : Int) := by omega
                have hjk86 : k86 ≤ xk39.last.claim.conf.length := by omega
                clear hmk hb
                by_cases hlt : k86 < xk39.last.claim.conf.length
                · have hik86 : (k86 : Int) < xk39.last.claim.conf.length := by omega
                  obtain ⟨bk86, ok86, capk86, usk86, ev, hP, hbl, hn, hc, hf, hcs⟩ := ReadsD.itemF (f := cmdD) HRk39_6.out hlt
                  injection ev with e1 e2 e3
                  subst e1
                  clear e2 e3
                  generalize xk39.last.claim.conf[k86] = xk86 at *
                  have HL90 := Lib.hid hlt
                  clear hlt
                  obtain ⟨vk86_0, csk86_, rfl, rk86_0, qqk86_0⟩ := CellsD.cons hcs
                  clear hcs
                  have ek86_0 := rk86_0.i
                  subst ek86_0
                  clear rk86_0
                  obtain ⟨vk86_1, csk86_, rfl, rk86_1, qqk86_1⟩ := CellsD.cons qqk86_0
                  clear qqk86_0
                  have ek86_1 := rk86_1.i
                  subst ek86_1
                  clear rk86_1
                  obtain ⟨vk86_2, csk86_, rfl, rk86_2, qqk86_2⟩ := CellsD.cons qqk86_1
                  clear qqk86_1
                  have ek86_2 := rk86_2.i
                  subst ek86_2
                  clear rk86_2
                  obtain ⟨vk86_3, csk86_, rfl, rk86_3, qqk86_3⟩ := CellsD.cons qqk86_2
                  clear qqk86_2
                  obtain ⟨sk86_3, tk86_3, rfl, -, -, -, hLk86_3⟩ := ReadsD.slcM (f := wrD) rk86_3
                  obtain ⟨vk86_4, csk86_, rfl, rk86_4, qqk86_4⟩ := CellsD.cons qqk86_3
                  clear qqk86_3
                  have ek86_4 := rk86_4.i
                  subst ek86_4
                  clear rk86_4
                  obtain ⟨vk86_5, csk86_, rfl, rk86_5, qqk86_5⟩ := CellsD.cons qqk86_4
                  clear qqk86_4
                  obtain ⟨sk86_5, tk86_5, rfl, -⟩ := rk86_5.bslc
                  have enk86_ := CellsD.nil qqk86_5
                  subst enk86_
                  clear qqk86_5
                  have HC91 := Lib.hid (And.intro hP (And.intro hbl (And.intro hc hf)))
                  have HRk86_3 := Lib.hid rk86_3
                  clear rk86_3
                  have HRk86_5 := Lib.hid rk86_5
                  clear rk86_5
                  clear hP hbl hn hc hf
                  have d92 : w87.cell? ⟨g62, 5, none⟩ = some (.slice (some ⟨bk86, ok86, none⟩) xk39.last.claim.conf.length tk39_6) := (HCX63.out w87 HK89.out).cell 5
                  obtain ⟨a94, d93⟩ : ∃ a, w87.cell? ⟨bk86, ok86 + k86 * 6, none⟩ = some (.int .i64 a) := ((HN61.out.1.trans HK89.out)).int HC91.out.2.1 (HC91.out.2.2.1 0 _ rfl)
                  have d95 : w87.frozen? ⟨bk86, ok86 + k86 * 6, none⟩ = false := ((HN61.out.1.trans HK89.out)).free HC91.out.2.1 (HC91.out.2.2.2 0 (by omega))
                  have d96 : bk86 < w87.heap.size := ((HN61.out.1.trans HK89.out)).lt HC91.out.2.1
                  go_wp2
                  go_roundg (xk39.last.claim.conf.length - (k86 + 1))
                  case measure => have := HM88.out; have := HL90.out; omega
                  case rel => exact ⟨k86 + 1, by have := HL90.out; omega, by go_num, HK89.out.trans (KindK.set HC91.out.1 d93 (SK.int _ _ _))⟩
                · have hik86 : ¬ (k86 : Int) < xk39.last.claim.conf.length := by omega
                  have d97 : w87.cell? ⟨g62, 5, none⟩ = some (.slice sk39_6 xk39.last.claim.conf.length tk39_6) := (HCX63.out w87 HK89.out).cell 5
                  go_wp2
                  obtain ⟨G, hG⟩ : ∃ G, G = gk := ⟨_, rfl⟩
                  subst hG
                  go_loopg [8] xk39.last.acks.length (fun mm i wr => ∃ k : Nat, mm + k = xk39.last.acks.length ∧ i = .int .i64 k ∧ KindK (fun k => P k ∧ k < W.heap.size) w60 wr)
                  case atStart => exact ⟨0, by omega, rfl, HK89.out⟩
                  case round =>
                    rename World => w99
                    obtain ⟨k98, hmk, rfl, hb⟩ := hrel
                    have HM100 := Lib.hid hmk
                    have HK101 := Lib.hid hb
                    have hkk98 : (0 : Int) ≤ (k98 : Int) := by omega
                    have hjk98 : k98 ≤ xk39.last.acks.length := by omega
                    clear hmk hb
                    by_cases hlt : k98 < xk39.last.acks.length
                    · have hik98 : (k98 : Int) < xk39.last.acks.length := by omega
                      obtain ⟨bk98, ok98, capk98, usk98, ev, hP, hbl, hn, hc, hf, hcs⟩ := ReadsD.itemF (f := ackD) HRk39_9.out hlt
                      injection ev with e1 e2 e3
                      subst e1
                      clear e2 e3
                      generalize xk39.last.acks[k98] = xk98 at *
                      have HL102 := Lib.hid hlt
                      clear hlt
                      obtain ⟨vk98_0, csk98_, rfl, rk98_0, qqk98_0⟩ := CellsD.cons hcs
                      clear hcs
                      have ek98_0 := rk98_0.i
                      subst ek98_0
                      clear rk98_0
                      obtain ⟨vk98_1, csk98_, rfl, rk98_1, qqk98_1⟩ := CellsD.cons qqk98_0
                      clear qqk98_0
                      obtain ⟨sk98_1, tk98_1, rfl, -⟩ := rk98_1.bslc
                      have enk98_ := CellsD.nil qqk98_1
                      subst enk98_
                      clear qqk98_1
                      have HC103 := Lib.hid (And.intro hP (And.intro hbl (And.intro hc hf)))
                      have HRk98_1 := Lib.hid rk98_1
                      clear rk98_1
                      clear hP hbl hn hc hf
                      have d104 : w99.cell? ⟨W.heap.size, 10, none⟩ = some (.slice (some ⟨bk39, ok39, none⟩) m.proof.length t310) := (HBX.out w99 (HN61.out.1.trans HK101.out)).cell 10
                      have d105 : w99.cell? ⟨bk39, ok39 + k39 * 10 + 9, none⟩ = some (.slice (some ⟨bk98, ok98, none⟩) xk39.last.acks.length tk39_9) := ((HN61.out.1.trans HK101.out)).slc HC44.out.2.1 (HC44.out.2.2.1 9 _ rfl)
                      have d106 : w99.cell? ⟨bk98, ok98 + k98 * 2 + 1, none⟩ = some (.slice sk98_1 xk98.tag.length tk98_1) := ((HN61.out.1.trans HK101.out)).slc HC103.out.2.1 (HC103.out.2.2.1 1 _ rfl)
                      have HCL109 := Lib.hid (flip_any w0 w99 _ xk98.tag HRk98_1.out ((HN61.out.1.trans HK101.out)))
                      go_wp2_with fail
                      refine HCL109.out.mono ?_
                      rintro e w107 ⟨rfl, hkk⟩
                      have HK108 := Lib.hid (HK101.out.trans hkk)
                      clear HCL109 hkk
                      clear d104 d105 d106
                      go_wp2
                      go_roundg (xk39.last.acks.length - (k98 + 1))
                      case measure => have := HM100.out; have := HL102.out; omega
                      case rel => exact ⟨k98 + 1, by have := HL102.out; omega, by go_num, HK108.out⟩
                    · have hik98 : ¬ (k98 : Int) < xk39.last.acks.length := by omega
                      have d110 : w99.cell? ⟨W.heap.size, 10, none⟩ = some (.slice (some ⟨bk39, ok39, none⟩) m.proof.length t310) := (HBX.out w99 (HN61.out.1.trans HK101.out)).cell 10
                      have d111 : w99.cell? ⟨bk39, ok39 + k39 * 10 + 9, none⟩ = some (.slice sk39_9 xk39.last.acks.length tk39_9) := ((HN61.out.1.trans HK101.out)).slc HC44.out.2.1 (HC44.out.2.2.1 9 _ rfl)
                      go_wp2
                      go_roundg (m.proof.length - (k39 + 1))
                      case measure => have := HM41.out; have := HL43.out; omega
                      case rel => exact ⟨k39 + 1, by have := HL43.out; omega, by go_num, (HN61.out.1.trans HK101.out)⟩
        · have hik39 : ¬ (k39 : Int) < m.proof.length := by omega
          have d112 : w40.cell? ⟨W.heap.size, 10, none⟩ = some (.slice s310 m.proof.length t310) := (HBX.out w40 HK42.out).cell 10
          go_wp2
          go_loopg [9] m.objs.length (fun mm i wr => ∃ k : Nat, mm + k = m.objs.length ∧ i = .int .i64 k ∧ KindK (fun k => P k ∧ k < W.heap.size) w0 wr)
          case atStart => exact ⟨0, by omega, rfl, HK42.out⟩
          case round =>
            rename World => w114
            obtain ⟨k113, hmk, rfl, hb⟩ := hrel
            have HM115 := Lib.hid hmk
            have HK116 := Lib.hid hb
            have hkk113 : (0 : Int) ≤ (k113 : Int) := by omega
            have hjk113 : k113 ≤ m.objs.length := by omega
            clear hmk hb
            by_cases hlt : k113 < m.objs.length
            · have hik113 : (k113 : Int) < m.objs.length := by omega
              obtain ⟨bk113, ok113, capk113, usk113, ev, hP, hbl, hn, hc, hf, hcs⟩ := ReadsD.itemF (f := fun s => [sD s]) HE12.out hlt
              injection ev with e1 e2 e3
              subst e1
              clear e2 e3
              generalize m.objs[k113] = xk113 at *
              have HL117 := Lib.hid hlt
              clear hlt
              obtain ⟨vk113_0, csk113_, rfl, rk113_0, qqk113_0⟩ := CellsD.cons hcs
              clear hcs
              have ek113_0 : vk113_0 = .string (toB xk113) := rk113_0.s
              subst ek113_0
              clear rk113_0
              have enk113_ := CellsD.nil qqk113_0
              subst enk113_
              clear qqk113_0
              have HC118 := Lib.hid (And.intro hP (And.intro hbl (And.intro hc hf)))
              clear hP hbl hn hc hf
              have d119 : w114.cell? ⟨W.heap.size, 12, none⟩ = some (.slice (some ⟨bk113, ok113, none⟩) m.objs.length t312) := (HBX.out w114 HK116.out).cell 12
              obtain ⟨a121, d120⟩ : ∃ a, w114.cell? ⟨bk113, ok113 + k113, none⟩ = some (.string a) := (by simpa only [Nat.mul_one, Nat.add_zero] using ((HK116.out).str HC118.out.2.1 (HC118.out.2.2.1 0 _ rfl)))
              have d122 : w114.frozen? ⟨bk113, ok113 + k113, none⟩ = false := (by simpa only [Nat.mul_one, Nat.add_zero] using ((HK116.out).free HC118.out.2.1 (HC118.out.2.2.2 0 (by omega))))
              have d123 : bk113 < w114.heap.size := (HK116.out).lt HC118.out.2.1
              go_wp2
              go_roundg (m.objs.length - (k113 + 1))
              case measure => have := HM115.out; have := HL117.out; omega
              case rel => exact ⟨k113 + 1, by have := HL117.out; omega, by go_num, HK116.out.trans (KindK.set HC118.out.1 d120 (SK.str _ _))⟩
            · have hik113 : ¬ (k113 : Int) < m.objs.length := by omega
              have d124 : w114.cell? ⟨W.heap.size, 12, none⟩ = some (.slice s312 m.objs.length t312) := (HBX.out w114 HK116.out).cell 12
              go_wp2
              go_loopg [10] m.items.length (fun mm i wr => ∃ k : Nat, mm + k = m.items.length ∧ i = .int .i64 k ∧ KindK (fun k => P k ∧ k < W.heap.size) w0 wr)
              case atStart => exact ⟨0, by omega, rfl, HK116.out⟩
              case round =>
                rename World => w126
                obtain ⟨k125, hmk, rfl, hb⟩ := hrel
                have HM127 := Lib.hid hmk
                have HK128 := Lib.hid hb
                have hkk125 : (0 : Int) ≤ (k125 : Int) := by omega
                have hjk125 : k125 ≤ m.items.length := by omega
                clear hmk hb
                by_cases hlt : k125 < m.items.length
                · have hik125 : (k125 : Int) < m.items.length := by omega
                  obtain ⟨bk125, ok125, capk125, usk125, ev, hP, hbl, hn, hc, hf, hcs⟩ := ReadsD.itemF (f := itemD) HE14.out hlt
                  injection ev with e1 e2 e3
                  subst e1
                  clear e2 e3
                  generalize m.items[k125] = xk125 at *
                  have HL129 := Lib.hid hlt
                  clear hlt
                  obtain ⟨vk125_0, csk125_, rfl, rk125_0, qqk125_0⟩ := CellsD.cons hcs
                  clear hcs
                  have ek125_0 : vk125_0 = .string (toB xk125.key) := rk125_0.s
                  subst ek125_0
                  clear rk125_0
                  obtain ⟨vk125_1, csk125_, rfl, rk125_1, qqk125_1⟩ := CellsD.cons qqk125_0
                  clear qqk125_0
                  have ek125_1 := rk125_1.atv
                  subst ek125_1
                  clear rk125_1
                  obtain ⟨vk125_2, csk125_, rfl, rk125_2, qqk125_2⟩ := CellsD.cons qqk125_1
                  clear qqk125_1
                  obtain ⟨sk125_2, tk125_2, rfl, -⟩ := rk125_2.bslc
                  obtain ⟨vk125_3, csk125_, rfl, rk125_3, qqk125_3⟩ := CellsD.cons qqk125_2
                  clear qqk125_2
                  obtain ⟨sk125_3, tk125_3, rfl, -, -, -, hLk125_3⟩ := ReadsD.slcM (f := fun s => [bytesD s]) rk125_3
                  have enk125_ := CellsD.nil qqk125_3
                  subst enk125_
                  clear qqk125_3
                  have HC130 := Lib.hid (And.intro hP (And.intro hbl (And.intro hc hf)))
                  have HRk125_2 := Lib.hid rk125_2
                  clear rk125_2
                  have HRk125_3 := Lib.hid rk125_3
                  clear rk125_3
                  clear hP hbl hn hc hf
                  have d131 : w126.cell? ⟨W.heap.size, 14, none⟩ = some (.slice (some ⟨bk125, ok125, none⟩) m.items.length t314) := (HBX.out w126 HK128.out).cell 14
                  have d132 : w126.cell? ⟨bk125, ok125 + k125 * 4 + 2, none⟩ = some (.slice sk125_2 xk125.content.length tk125_2) := (HK128.out).slc HC130.out.2.1 (HC130.out.2.2.1 2 _ rfl)
                  have HCL135 := Lib.hid (flip_any w0 w126 _ xk125.content HRk125_2.out (HK128.out))
                  go_wp2_with fail
                  refine HCL135.out.mono ?_
                  rintro e w133 ⟨rfl, hkk⟩
                  have HK134 := Lib.hid (HK128.out.trans hkk)
                  clear HCL135 hkk
                  clear d131 d132
                  go_wp2
                  obtain ⟨G, hG⟩ : ∃ G, G = gk := ⟨_, rfl⟩
                  subst hG
                  go_loopg [11] xk125.path.length (fun mm i wr => ∃ k : Nat, mm + k = xk125.path.length ∧ i = .int .i64 k ∧ KindK (fun k => P k ∧ k < W.heap.size) w0 wr)
                  case atStart => exact ⟨0, by omega, rfl, HK134.out⟩
                  case round =>
                    rename World => w137
                    obtain ⟨k136, hmk, rfl, hb⟩ := hrel
                    have HM138 := Lib.hid hmk
                    have HK139 := Lib.hid hb
                    have hkk136 : (0 : Int) ≤ (k136 : Int) := by omega
                    have hjk136 : k136 ≤ xk125.path.length := by omega
                    clear hmk hb
                    by_cases hlt : k136 < xk125.path.length
                    · have hik136 : (k136 : Int) < xk125.path.length := by omega
                      obtain ⟨bk136, ok136, capk136, usk136, ev, hP, hbl, hn, hc, hf, hcs⟩ := ReadsD.itemF (f := fun s => [bytesD s]) HRk125_3.out hlt
                      injection ev with e1 e2 e3
                      subst e1
                      clear e2 e3
                      generalize xk125.path[k136] = xk136 at *
                      have HL140 := Lib.hid hlt
                      clear hlt
                      obtain ⟨vk136_0, csk136_, rfl, rk136_0, qqk136_0⟩ := CellsD.cons hcs
                      clear hcs
                      obtain ⟨sk136_0, tk136_0, rfl, -⟩ := rk136_0.bslc
                      have enk136_ := CellsD.nil qqk136_0
                      subst enk136_
                      clear qqk136_0
                      have HC141 := Lib.hid (And.intro hP (And.intro hbl (And.intro hc hf)))
                      have HRk136_0 := Lib.hid rk136_0
                      clear rk136_0
                      clear hP hbl hn hc hf
                      have d142 : w137.cell? ⟨W.heap.size, 14, none⟩ = some (.slice (some ⟨bk125, ok125, none⟩) m.items.length t314) := (HBX.out w137 HK139.out).cell 14
                      have d143 : w137.cell? ⟨bk125, ok125 + k125 * 4 + 3, none⟩ = some (.slice (some ⟨bk136, ok136, none⟩) xk125.path.length tk125_3) := (HK139.out).slc HC130.out.2.1 (HC130.out.2.2.1 3 _ rfl)
                      have d144 : w137.cell? ⟨bk136, ok136 + k136, none⟩ = some (.slice sk136_0 xk136.length tk136_0) := (by simpa only [Nat.mul_one, Nat.add_zero] using ((HK139.out).slc HC141.out.2.1 (HC141.out.2.2.1 0 _ rfl)))
                      have HCL147 := Lib.hid (flip_any w0 w137 _ xk136 HRk136_0.out (HK139.out))
                      go_wp2_with fail
                      refine HCL147.out.mono ?_
                      rintro e w145 ⟨rfl, hkk⟩
                      have HK146 := Lib.hid (HK139.out.trans hkk)
                      clear HCL147 hkk
                      clear d142 d143 d144
                      go_wp2
                      go_roundg (xk125.path.length - (k136 + 1))
                      case measure => have := HM138.out; have := HL140.out; omega
                      case rel => exact ⟨k136 + 1, by have := HL140.out; omega, by go_num, HK146.out⟩
                    · have hik136 : ¬ (k136 : Int) < xk125.path.length := by omega
                      have d148 : w137.cell? ⟨W.heap.size, 14, none⟩ = some (.slice (some ⟨bk125, ok125, none⟩) m.items.length t314) := (HBX.out w137 HK139.out).cell 14
                      have d149 : w137.cell? ⟨bk125, ok125 + k125 * 4 + 3, none⟩ = some (.slice sk125_3 xk125.path.length tk125_3) := (HK139.out).slc HC130.out.2.1 (HC130.out.2.2.1 3 _ rfl)
                      obtain ⟨a151, d150⟩ : ∃ a, w137.cell? ⟨bk125, ok125 + k125 * 4, none⟩ = some (.string a) := (HK139.out).str HC130.out.2.1 (HC130.out.2.2.1 0 _ rfl)
                      have d152 : w137.frozen? ⟨bk125, ok125 + k125 * 4, none⟩ = false := (HK139.out).free HC130.out.2.1 (HC130.out.2.2.2 0 (by omega))
                      have d153 : bk125 < w137.heap.size := (HK139.out).lt HC130.out.2.1
                      go_wp2
                      go_roundg (m.items.length - (k125 + 1))
                      case measure => have := HM127.out; have := HL129.out; omega
                      case rel => exact ⟨k125 + 1, by have := HL129.out; omega, by go_num, HK139.out.trans (KindK.set HC130.out.1 d150 (SK.str _ _))⟩
                · have hik125 : ¬ (k125 : Int) < m.items.length := by omega
                  have d154 : w126.cell? ⟨W.heap.size, 14, none⟩ = some (.slice s314 m.items.length t314) := (HBX.out w126 HK128.out).cell 14
                  go_wp2
                  go_end0
                  exact HFI.out _ HK128.out
end Go.Proofs.Ytmcdmcnbnnfhnaa
