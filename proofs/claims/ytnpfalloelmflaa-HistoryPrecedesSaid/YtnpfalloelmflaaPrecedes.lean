/-
  HistoryPrecedes: for all operations the law returns true, and what came in reads behind the call as before. No condition.
-/
import Derived.Test.YtnpfalloelmflaaHz
import Derived.Test.YtnpfalloelmflaaHq
import Derived.Deep.DeepCutAuto
namespace Go.Proofs.Ytnpfalloelmflaa.historyPrecedes
open Go.ChangeShapes Go.WideShapes Go.ChangeAt Go.RowKit

def opA (o : Opn) (va vz : Value) : Array Value := #[.int .i64 (cliO o), .int .i64 (kindO o), .int .i64 (begO o), .int .i64 (endO o), va, vz]
def OpB (w : World) (g : Nat) (o : Opn) (va vz : Value) : Prop := Blk w g 31 (opA o va vz) ∧ OpAt w (opV o va vz) o
theorem OpB.on {w w' : World} {g : Nat} {o : Opn} {va vz : Value} (h : OpB w g o va vz) (hb : Below w.heap.size w w') : OpB w' g o va vz := ⟨h.1.on hb, h.2.on hb⟩
theorem four_blk (W : World) (t : TypeId) (c1 c2 c3 c4 : Array Value) : Blk ((((W.alloc (.cells c1 t)).alloc (.cells c2 t)).alloc (.cells c3 t)).alloc (.cells c4 t)) W.heap.size t c1 ∧
    Blk ((((W.alloc (.cells c1 t)).alloc (.cells c2 t)).alloc (.cells c3 t)).alloc (.cells c4 t)) (W.heap.size + 1) t c2 ∧
    Blk ((((W.alloc (.cells c1 t)).alloc (.cells c2 t)).alloc (.cells c3 t)).alloc (.cells c4 t)) (W.heap.size + 1 + 1) t c3 ∧
    Blk ((((W.alloc (.cells c1 t)).alloc (.cells c2 t)).alloc (.cells c3 t)).alloc (.cells c4 t)) (W.heap.size + 1 + 1 + 1) t c4 ∧
    Below W.heap.size W ((((W.alloc (.cells c1 t)).alloc (.cells c2 t)).alloc (.cells c3 t)).alloc (.cells c4 t)) := by
  have h1 := Blk.new W t c1
  have h2 := Blk.new (W.alloc (.cells c1 t)) t c2
  have h3 := Blk.new ((W.alloc (.cells c1 t)).alloc (.cells c2 t)) t c3
  have h4 := Blk.new (((W.alloc (.cells c1 t)).alloc (.cells c2 t)).alloc (.cells c3 t)) t c4
  simp only [World.size_alloc] at h2 h3 h4
  exact ⟨((h1.alloc _).alloc _).alloc _, (h2.alloc _).alloc _, h3.alloc _, h4, ((((Below.refl _ _).alloc (Nat.le_refl _) _).alloc (by simp) _).alloc (by simp; omega) _).alloc (by simp; omega) _⟩
/-- The four boxes. -/
def Four (W w : World) (a b c d : Opn) (va za vb zb vc zc vd zd : Value) : Prop := OpB w W.heap.size a va za ∧ OpB w (W.heap.size + 1) b vb zb ∧ OpB w (W.heap.size + 1 + 1) c vc zc ∧ OpB w (W.heap.size + 1 + 1 + 1) d vd zd ∧ Below W.heap.size W w
theorem Four.on {W w w' : World} {a b c d : Opn} {va za vb zb vc zc vd zd : Value} (h : Four W w a b c d va za vb zb vc zc vd zd) (hb : Below w.heap.size w w') : Four W w' a b c d va za vb zb vc zc vd zd :=
  ⟨h.1.on hb, h.2.1.on hb, h.2.2.1.on hb, h.2.2.2.1.on hb, h.2.2.2.2.trans (hb.mono h.2.2.2.2.size)⟩
theorem prec_true {x y : Opn} (h : precB x y = true) : ¬ endO x = -1 ∧ endO x < begO y := of_decide_eq_true h

set_option maxRecDepth 100000 in
set_option maxHeartbeats 8000000 in
theorem walk (va vb vc vd : Value) (a b c d : Opn) (W : World) (ha : OpAt W va a) (hb : OpAt W vb b) (hc : OpAt W vc c) (hd : OpAt W vd d) :
    Calls Try.prog 4 #[va, vb, vc, vd] W (BoolMade W true) := by
  obtain ⟨xa, za, rfl, ra, sa⟩ := ha
  obtain ⟨xb, zb, rfl, rb, sb⟩ := hb
  obtain ⟨xc, zc, rfl, rc, sc⟩ := hc
  obtain ⟨xd, zd, rfl, rd, sd⟩ := hd
  have HF : ∀ w, w = ((((W.alloc (.cells (opA a xa za) 31)).alloc (.cells (opA b xb zb) 31)).alloc (.cells (opA c xc zc) 31)).alloc (.cells (opA d xd zd) 31)) → Hid (Four W w a b c d xa za xb zb xc zc xd zd) := fun w e => Lib.hid (by
    obtain ⟨h1, h2, h3, h4, h5⟩ := four_blk W 31 (opA a xa za) (opA b xb zb) (opA c xc zc) (opA d xd zd)
    rw [e]
    exact ⟨⟨h1, xa, za, rfl, ra.keep h5, sa.keep h5⟩, ⟨h2, xb, zb, rfl, rb.keep h5, sb.keep h5⟩, ⟨h3, xc, zc, rfl, rc.keep h5, sc.keep h5⟩, ⟨h4, xd, zd, rfl, rd.keep h5, sd.keep h5⟩, h5⟩)
  replace HF := Lib.hid HF
  obtain ⟨x1, y1, z1, rfl⟩ := Slc.of_reads ra
  obtain ⟨x2, y2, z2, rfl⟩ := Slc.of_reads sa
  obtain ⟨x3, y3, z3, rfl⟩ := Slc.of_reads rb
  obtain ⟨x4, y4, z4, rfl⟩ := Slc.of_reads sb
  obtain ⟨x5, y5, z5, rfl⟩ := Slc.of_reads rc
  obtain ⟨x6, y6, z6, rfl⟩ := Slc.of_reads sc
  obtain ⟨x7, y7, z7, rfl⟩ := Slc.of_reads rd
  obtain ⟨x8, y8, z8, rfl⟩ := Slc.of_reads sd
  clear ra sa rb sb rc sc rd sd
  unfold opV
  go_enter Try.func4, Try.ntmps4
  go_upto_region 1 with fail
  have F0 := HF.out _ rfl
  go_cut [23] (fun t wx => t = .bool false ∧ Four W wx a b c d (.slice x1 y1 z1) (.slice x2 y2 z2) (.slice x3 y3 z3) (.slice x4 y4 z4) (.slice x5 y5 z5) (.slice x6 y6 z6) (.slice x7 y7 z7) (.slice x8 y8 z8))
  case first =>
    go_wp2_with fail
    refine (prec_any _ _ a a _ F0.out.1.2 F0.out.1.2).mono ?_
    rintro e w1 ⟨rfl, hb⟩
    have G1 := Lib.hid (F0.out.on hb)
    clear hb F0
    by_cases p : precB a a = true
    · have hp := prec_true p
      have e1 : ¬ begO a < endO a := by omega
      have e2 : (endO a == -1) = false := beq_f hp.1
      rw [p]
      clear p hp
      obtain ⟨ca0, ca1, ca2, ca3, ca4, ca5, ca6⟩ := blk6 G1.out.1.1
      go_wp2
      go_meet
      exact ⟨by rw [decide_eq_false (Int.not_lt.2 e1)], G1.out⟩
    · rw [Bool.eq_false_iff.2 p]
      clear p
      go_wp2
      go_meet
      exact ⟨rfl, G1.out⟩
  case rest =>
    obtain ⟨rfl, hf⟩ := hcut
    have F1 := Lib.hid hf
    clear hf HF F0
    go_upto_region 3 with fail
    go_cut [55] (fun t wx => ∃ r : Bool, t = .bool r ∧ (r = false → (endO b = -1 ∨ begO b ≤ endO b) ∧ (endO d = -1 ∨ begO d ≤ endO d)) ∧ Four W wx a b c d (.slice x1 y1 z1) (.slice x2 y2 z2) (.slice x3 y3 z3) (.slice x4 y4 z4) (.slice x5 y5 z5) (.slice x6 y6 z6) (.slice x7 y7 z7) (.slice x8 y8 z8))
    case first =>
      obtain ⟨cb0, cb1, cb2, cb3, cb4, cb5, cb6⟩ := blk6 F1.out.2.1.1
      obtain ⟨cd0, cd1, cd2, cd3, cd4, cd5, cd6⟩ := blk6 F1.out.2.2.2.1.1
      by_cases hb0 : begO b < 0
      · go_wp2
        go_meet
        exact ⟨true, rfl, (fun h => by cases h), F1.out⟩
      · by_cases hb1 : endO b = -1
        · have eb := bne_f hb1
          have Hb : Hid (endO b = -1 ∨ begO b ≤ endO b) := Lib.hid (.inl hb1)
          clear hb1
          by_cases hd0 : begO d < 0
          · go_wp2
            go_meet
            exact ⟨true, rfl, (fun h => by cases h), F1.out⟩
          · by_cases hd1 : endO d = -1
            · have ed := bne_f hd1
              have Hd : Hid (endO d = -1 ∨ begO d ≤ endO d) := Lib.hid (.inl hd1)
              clear hd1
              go_wp2
              go_meet
              exact ⟨false, rfl, (fun _ => ⟨Hb.out, Hd.out⟩), F1.out⟩
            · have ed := bne_t hd1
              by_cases hd2 : endO d < begO d
              · clear hd1
                go_wp2
                go_meet
                exact ⟨true, rfl, (fun h => by cases h), F1.out⟩
              · have Hd : Hid (endO d = -1 ∨ begO d ≤ endO d) := Lib.hid (.inr (by omega))
                clear hd1
                go_wp2
                go_meet
                exact ⟨false, rfl, (fun _ => ⟨Hb.out, Hd.out⟩), F1.out⟩
        · have eb := bne_t hb1
          by_cases hb2 : endO b < begO b
          · clear hb1
            go_wp2
            go_meet
            exact ⟨true, rfl, (fun h => by cases h), F1.out⟩
          · have Hb : Hid (endO b = -1 ∨ begO b ≤ endO b) := Lib.hid (.inr (by omega))
            clear hb1
            by_cases hd0 : begO d < 0
            · go_wp2
              go_meet
              exact ⟨true, rfl, (fun h => by cases h), F1.out⟩
            · by_cases hd1 : endO d = -1
              · have ed := bne_f hd1
                have Hd : Hid (endO d = -1 ∨ begO d ≤ endO d) := Lib.hid (.inl hd1)
                clear hd1
                go_wp2
                go_meet
                exact ⟨false, rfl, (fun _ => ⟨Hb.out, Hd.out⟩), F1.out⟩
              · have ed := bne_t hd1
                by_cases hd2 : endO d < begO d
                · clear hd1
                  go_wp2
                  go_meet
                  exact ⟨true, rfl, (fun h => by cases h), F1.out⟩
                · have Hd : Hid (endO d = -1 ∨ begO d ≤ endO d) := Lib.hid (.inr (by omega))
                  clear hd1
                  go_wp2
                  go_meet
                  exact ⟨false, rfl, (fun _ => ⟨Hb.out, Hd.out⟩), F1.out⟩
    case rest =>
      obtain ⟨r, rfl, hr, hf⟩ := hcut
      have F2 := Lib.hid hf
      clear hf F1
      cases r with
      | true =>
        clear hr
        go_wp2_with fail
        refine (awake_any _).mono ?_
        rintro e w9 ⟨rfl, hb⟩
        have F3 := Lib.hid (F2.out.on hb)
        clear hb
        go_wp2
        go_ret
        exact ⟨rfl, F3.out.2.2.2.2⟩
      | false =>
        have HR := Lib.hid (hr rfl)
        clear hr
        go_upto_region 5 with fail
        go_cut [70] (fun t wx => t = .bool false ∧ Four W wx a b c d (.slice x1 y1 z1) (.slice x2 y2 z2) (.slice x3 y3 z3) (.slice x4 y4 z4) (.slice x5 y5 z5) (.slice x6 y6 z6) (.slice x7 y7 z7) (.slice x8 y8 z8))
        case first =>
          obtain ⟨ca0, ca1, ca2, ca3, ca4, ca5, ca6⟩ := blk6 F2.out.1.1
          obtain ⟨cb0, cb1, cb2, cb3, cb4, cb5, cb6⟩ := blk6 F2.out.2.1.1
          go_wp2_with fail
          refine (prec_any _ _ a b _ F2.out.1.2 F2.out.2.1.2).mono ?_
          rintro e w2 ⟨rfl, hb⟩
          have G2 := Lib.hid (F2.out.on hb)
          clear hb F2
          clear ca0 ca1 ca2 ca3 ca4 ca5 ca6 cb0 cb1 cb2 cb3 cb4 cb5 cb6
          by_cases p1 : precB a b = true
          · have P1 := Lib.hid p1
            rw [p1]
            clear p1
            obtain ⟨cb0, cb1, cb2, cb3, cb4, cb5, cb6⟩ := blk6 G2.out.2.1.1
            obtain ⟨cc0, cc1, cc2, cc3, cc4, cc5, cc6⟩ := blk6 G2.out.2.2.1.1
            go_wp2_with fail
            refine (prec_any _ _ b c _ G2.out.2.1.2 G2.out.2.2.1.2).mono ?_
            rintro e w3 ⟨rfl, hb⟩
            have G3 := Lib.hid (G2.out.on hb)
            clear hb G2
            clear cb0 cb1 cb2 cb3 cb4 cb5 cb6 cc0 cc1 cc2 cc3 cc4 cc5 cc6
            by_cases p2 : precB b c = true
            · have P2 := Lib.hid p2
              rw [p2]
              clear p2
              obtain ⟨ca0, ca1, ca2, ca3, ca4, ca5, ca6⟩ := blk6 G3.out.1.1
              obtain ⟨cc0, cc1, cc2, cc3, cc4, cc5, cc6⟩ := blk6 G3.out.2.2.1.1
              go_wp2_with fail
              refine (prec_any _ _ a c _ G3.out.1.2 G3.out.2.2.1.2).mono ?_
              rintro e w4 ⟨rfl, hb⟩
              have G4 := Lib.hid (G3.out.on hb)
              clear hb G3
              clear ca0 ca1 ca2 ca3 ca4 ca5 ca6 cc0 cc1 cc2 cc3 cc4 cc5 cc6
              have p3 : precB a c = true := decide_eq_true (by have h1 := prec_true P1.out; have h2 := prec_true P2.out; have h3 := HR.out.1; omega)
              rw [p3]
              clear p3
              go_wp2
              go_meet
              exact ⟨rfl, G4.out⟩
            · rw [Bool.eq_false_iff.2 p2]
              clear p2
              go_wp2
              go_meet
              exact ⟨rfl, G3.out⟩
          · rw [Bool.eq_false_iff.2 p1]
            clear p1
            go_wp2
            go_meet
            exact ⟨rfl, G2.out⟩
        case rest =>
          obtain ⟨rfl, hf⟩ := hcut
          have F4 := Lib.hid hf
          clear hf F2
          go_wp2_with fail
          refine (awake_any _).mono ?_
          rintro e w10 ⟨rfl, hb⟩
          have F5 := Lib.hid (F4.out.on hb)
          clear hb F4
          obtain ⟨ca0, ca1, ca2, ca3, ca4, ca5, ca6⟩ := blk6 F5.out.1.1
          obtain ⟨cb0, cb1, cb2, cb3, cb4, cb5, cb6⟩ := blk6 F5.out.2.1.1
          go_wp2_with fail
          refine (prec_any _ _ a b _ F5.out.1.2 F5.out.2.1.2).mono ?_
          rintro e w5 ⟨rfl, hb⟩
          have G5 := Lib.hid (F5.out.on hb)
          clear hb F5
          clear ca0 ca1 ca2 ca3 ca4 ca5 ca6 cb0 cb1 cb2 cb3 cb4 cb5 cb6
          by_cases p1 : precB a b = true
          · have P1 := Lib.hid p1
            rw [p1]
            clear p1
            obtain ⟨cc0, cc1, cc2, cc3, cc4, cc5, cc6⟩ := blk6 G5.out.2.2.1.1
            obtain ⟨cd0, cd1, cd2, cd3, cd4, cd5, cd6⟩ := blk6 G5.out.2.2.2.1.1
            go_wp2_with fail
            refine (prec_any _ _ c d _ G5.out.2.2.1.2 G5.out.2.2.2.1.2).mono ?_
            rintro e w6 ⟨rfl, hb⟩
            have G6 := Lib.hid (G5.out.on hb)
            clear hb G5
            clear cc0 cc1 cc2 cc3 cc4 cc5 cc6 cd0 cd1 cd2 cd3 cd4 cd5 cd6
            by_cases p2 : precB c d = true
            · have P2 := Lib.hid p2
              rw [p2]
              clear p2
              obtain ⟨ca0, ca1, ca2, ca3, ca4, ca5, ca6⟩ := blk6 G6.out.1.1
              obtain ⟨cd0, cd1, cd2, cd3, cd4, cd5, cd6⟩ := blk6 G6.out.2.2.2.1.1
              go_wp2_with fail
              refine (prec_any _ _ a d _ G6.out.1.2 G6.out.2.2.2.1.2).mono ?_
              rintro e w7 ⟨rfl, hb⟩
              have G7 := Lib.hid (G6.out.on hb)
              clear hb G6
              clear ca0 ca1 ca2 ca3 ca4 ca5 ca6 cd0 cd1 cd2 cd3 cd4 cd5 cd6
              by_cases p3 : precB a d = true
              · rw [p3]
                clear p3
                go_wp2
                go_ret
                exact ⟨rfl, G7.out.2.2.2.2⟩
              · have P3 := Lib.hid p3
                rw [Bool.eq_false_iff.2 p3]
                clear p3
                obtain ⟨cc0, cc1, cc2, cc3, cc4, cc5, cc6⟩ := blk6 G7.out.2.2.1.1
                obtain ⟨cb0, cb1, cb2, cb3, cb4, cb5, cb6⟩ := blk6 G7.out.2.1.1
                go_wp2_with fail
                refine (prec_any _ _ c b _ G7.out.2.2.1.2 G7.out.2.1.2).mono ?_
                rintro e w8 ⟨rfl, hb⟩
                have G8 := Lib.hid (G7.out.on hb)
                clear hb G7
                clear cc0 cc1 cc2 cc3 cc4 cc5 cc6 cb0 cb1 cb2 cb3 cb4 cb5 cb6
                have p4 : precB c b = true := decide_eq_true (by
                  have h1 := prec_true P1.out
                  have h2 := prec_true P2.out
                  have h3 : ¬ (¬ endO a = -1 ∧ endO a < begO d) := fun h => P3.out (decide_eq_true h)
                  omega)
                rw [p4]
                clear p4
                go_wp2
                go_ret
                exact ⟨rfl, G8.out.2.2.2.2⟩
            · rw [Bool.eq_false_iff.2 p2]
              clear p2
              go_wp2
              go_ret
              exact ⟨rfl, G6.out.2.2.2.2⟩
          · rw [Bool.eq_false_iff.2 p1]
            clear p1
            go_wp2
            go_ret
            exact ⟨rfl, G5.out.2.2.2.2⟩

set_option maxRecDepth 100000 in
theorem lifted (os : Os) (started : os.Started) (H : Type) (enc : TypeId × Value → H) :
    ReturnsInHanded {} Try.checked os 4 .any (Rows.historyPrecedesSpec.pre6 enc Try.prog Try.f4 Rows.historyPrecedesRow.domain false) (Rows.historyPrecedesSpec.post enc Try.prog Try.f4 false true false false) := by
  refine returnsInHanded_of_change (C := Try.checked) own started (by kernel_rfl) Try.func4
    (ChangeSpec.witness6 (enc := enc) (C := Try.checked) false ⟨#[], #[.agg #[.int .i64 0, .int .i64 0, .int .i64 0, .int .i64 0, .slice none 0 0, .slice none 0 0], .agg #[.int .i64 0, .int .i64 0, .int .i64 0, .int .i64 0, .slice none 0 0, .slice none 0 0], .agg #[.int .i64 0, .int .i64 0, .int .i64 0, .int .i64 0, .slice none 0 0, .slice none 0 0], .agg #[.int .i64 0, .int .i64 0, .int .i64 0, .int .i64 0, .slice none 0 0, .slice none 0 0]], []⟩ 8 (by kernel_rfl) (by kernel_rfl) (by kernel_rfl) (by kernel_rfl)) ?_
  intro W base args ds gs before hval0 hW hcnd _
  have hval : ∀ (j : Nat) t v, Try.f4.params[j]? = some t → args[j]? = some v → Value.okWide Try.prog W .any base t v := hval0
  have hW' := hW
  obtain ⟨p, q, hA0, hV, rfl, hfz, hnd⟩ := hW
  have hA : DataW.TrodAll enc Try.prog W 0 (fun _ => true) true Try.f4.params.toList args.toList ds p := hA0
  rw [Try.params4] at hA hval
  obtain ⟨v0, vs0, d0, ds0, p0, q0, hargs, rfl, rfl, t0, r0⟩ := trodAll_cons hA
  obtain ⟨v1, vs1, d1, ds1, p1, q1, rfl, rfl, rfl, t1, r1⟩ := trodAll_cons r0
  obtain ⟨v2, vs2, d2, ds2, p2, q2, rfl, rfl, rfl, t2, r2⟩ := trodAll_cons r1
  obtain ⟨v3, vs3, d3, ds3, p3, q3, rfl, rfl, rfl, t3, r3⟩ := trodAll_cons r2
  obtain ⟨rfl, rfl, rfl⟩ := trodAll_nil r3
  obtain rfl : args = #[v0, v1, v2, v3] := by cases args; simp_all
  obtain ⟨rfl, rfl⟩ := trodVars_none hV
  obtain ⟨x0, h0⟩ := open_op1 (hval 0 31 v0 rfl rfl) t0
  obtain ⟨x1, h1⟩ := open_op1 (hval 1 31 v1 rfl rfl) t1
  obtain ⟨x2, h2⟩ := open_op1 (hval 2 31 v2 rfl rfl) t2
  obtain ⟨x3, h3⟩ := open_op1 (hval 3 31 v3 rfl rfl) t3
  refine (walk v0 v1 v2 v3 x0 x1 x2 x3 W h0 h1 h2 h3).mono fun e W' ⟨he, hb⟩ => ?_
  subst he
  exact ⟨_, rfl, law_post laidOut rfl (fun _ _ => rfl) (by kernel_rfl) Try.underlying4 (by rw [Try.params4]; exact fun t ht => by simp at ht; rcases ht with  rfl ; all_goals exact ⟨by kernel_rfl, of_decide_eq_true (by kernel_rfl)⟩) hW' hb⟩

theorem over : Rows.historyPrecedesRow.holds Try.pinned (OpenSpec.ofChange Rows.historyPrecedesSpec) :=
  OpenClaim.holds_of_wide 4 Try.f4 rfl rfl rfl rfl rfl rfl rfl ⟨rfl, rfl, rfl, rfl, rfl⟩ rfl rfl rfl rfl rfl (by kernel_rfl) Try.func4 (by kernel_rfl)
    (of_decide_eq_true (by kernel_rfl)) (by unfold Func.isWrapper; first | (rw [if_pos (by decide +kernel)]; kernel_rfl) | (rw [if_neg (by decide +kernel)]; exact ⟨rfl, rfl⟩))
    (fun os started H enc _ => lifted os started H enc)

theorem proved : Rows.HistoryPrecedesSaid := over

end Go.Proofs.Ytnpfalloelmflaa.historyPrecedes
