/-
  Chapter 55: Holds of the reference.
-/
import Derived.Test.YtjijlhjggpibjaaGreatGm
namespace Go.Proofs.YtjijlhjggpibjaaGreat
open Go.RowKit

/-- A box that holds an operation. -/
def BoxO (w : World) (g : Nat) (o : Opn) (va vz : Value) : Prop := Blk w g 39 #[.int .i64 (cliO o), .int .i64 (kindO o), .int .i64 (begO o), .int .i64 (endO o), va, vz] ∧ Reads vs w va (addO o) ∧ Reads vs w vz (seeO o)
theorem BoxO.on {w w' : World} {g : Nat} {o : Opn} {va vz : Value} (h : BoxO w g o va vz) (hb : Below w.heap.size w w') : BoxO w' g o va vz := ⟨h.1.on hb, h.2.1.keep hb, h.2.2.keep hb⟩
theorem BoxO.at_ {w : World} {g : Nat} {o : Opn} {va vz : Value} (h : BoxO w g o va vz) : OpAt w (opV o va vz) o := ⟨va, vz, rfl, h.2.1, h.2.2⟩
def inB (xs ys : List Str) : Bool := decide (interL xs ys ≠ [])
def hold3 (a b : Opn) : Bool := rdO a && upO b && !shO a b && inB (addO b) (seeO a)
def hold4 (a b : Opn) : Bool := rdO a && rdO b && !subB (seeO a) (seeO b) && !subB (seeO b) (seeO a)
def hold5 (a b : Opn) : Bool := rdO a && upO b && befO a b && shO a b
def hold6 (a b : Opn) : Bool := upO a && rdO b && befO a b && !shO b a
def hold7 (a b : Opn) : Bool := rdO a && rdO b && befO a b && !subB (seeO a) (seeO b)
def hold8 (a b c : Opn) : Bool := upO a && upO b && rdO c && befO a b && shO c b && !shO c a
def fitO (o : Opn) : Prop := (addO o).length ≤ 1000 ∧ (seeO o).length ≤ 1000
theorem three_blk (W : World) (t1 t2 t3 : TypeId) (c1 c2 c3 : Array Value) : Blk (((W.alloc (.cells c1 t1)).alloc (.cells c2 t2)).alloc (.cells c3 t3)) (W.heap.size + 1 + 1) t3 c3 ∧
    Blk (((W.alloc (.cells c1 t1)).alloc (.cells c2 t2)).alloc (.cells c3 t3)) W.heap.size t1 c1 ∧ Blk (((W.alloc (.cells c1 t1)).alloc (.cells c2 t2)).alloc (.cells c3 t3)) (W.heap.size + 1) t2 c2 ∧
    Below W.heap.size W (((W.alloc (.cells c1 t1)).alloc (.cells c2 t2)).alloc (.cells c3 t3)) := by
  have h1 := Blk.new W t1 c1
  have h2 := Blk.new (W.alloc (.cells c1 t1)) t2 c2
  have h3 := Blk.new ((W.alloc (.cells c1 t1)).alloc (.cells c2 t2)) t3 c3
  simp only [World.size_alloc] at h2 h3
  exact ⟨h3, (h1.alloc _).alloc _, h2.alloc _, (((Below.refl _ _).alloc (Nat.le_refl _) _).alloc (by simp) _).alloc (by simp; omega) _⟩
set_option maxRecDepth 100000 in
set_option maxHeartbeats 8000000 in
theorem holds3_any (va vb vc : Value) (a b c : Opn) (W : World) (ha : OpAt W va a) (hb : OpAt W vb b) (hc : OpAt W vc c) (la : fitO a) (lb : fitO b) (lc : fitO c) :
    Calls Tryz.prog 63 #[.int .i64 3, va, vb, vc] W (BoolMade W (hold3 a b)) := by
  obtain ⟨va1, va2, rfl, ra1, ra2⟩ := ha
  obtain ⟨vb1, vb2, rfl, rb1, rb2⟩ := hb
  obtain ⟨vc1, vc2, rfl, rc1, rc2⟩ := hc
  obtain ⟨xa, na, ca, rfl⟩ := Slc.of_reads ra1
  obtain ⟨ya, ma, da, rfl⟩ := Slc.of_reads ra2
  obtain ⟨xb, nb, cb, rfl⟩ := Slc.of_reads rb1
  obtain ⟨yb, mb, db, rfl⟩ := Slc.of_reads rb2
  obtain ⟨xc, nc, cc, rfl⟩ := Slc.of_reads rc1
  obtain ⟨yc, mc, dc, rfl⟩ := Slc.of_reads rc2
  have la1 := la.1
  have la2 := la.2
  have lb1 := lb.1
  have lb2 := lb.2
  have lc1 := lc.1
  have lc2 := lc.2
  clear la lb lc
  obtain ⟨W3, hW3⟩ : ∃ W3, W3 = (((W.alloc (.cells #[.int .i64 (cliO a), .int .i64 (kindO a), .int .i64 (begO a), .int .i64 (endO a), .slice xa na ca, .slice ya ma da] 39)).alloc (.cells #[.int .i64 (cliO b), .int .i64 (kindO b), .int .i64 (begO b), .int .i64 (endO b), .slice xb nb cb, .slice yb mb db] 39)).alloc (.cells #[.int .i64 (cliO c), .int .i64 (kindO c), .int .i64 (begO c), .int .i64 (endO c), .slice xc nc cc, .slice yc mc dc] 39)) := ⟨_, rfl⟩
  have h3 := three_blk W 39 39 39 #[.int .i64 (cliO a), .int .i64 (kindO a), .int .i64 (begO a), .int .i64 (endO a), .slice xa na ca, .slice ya ma da] #[.int .i64 (cliO b), .int .i64 (kindO b), .int .i64 (begO b), .int .i64 (endO b), .slice xb nb cb, .slice yb mb db] #[.int .i64 (cliO c), .int .i64 (kindO c), .int .i64 (begO c), .int .i64 (endO c), .slice xc nc cc, .slice yc mc dc]
  rw [← hW3] at h3
  have HA : Hid (BoxO W3 W.heap.size a (.slice xa na ca) (.slice ya ma da)) := Lib.hid ⟨h3.2.1, ra1.keep h3.2.2.2, ra2.keep h3.2.2.2⟩
  have HB : Hid (BoxO W3 (W.heap.size + 1) b (.slice xb nb cb) (.slice yb mb db)) := Lib.hid ⟨h3.2.2.1, rb1.keep h3.2.2.2, rb2.keep h3.2.2.2⟩
  have HC : Hid (BoxO W3 (W.heap.size + 1 + 1) c (.slice xc nc cc) (.slice yc mc dc)) := Lib.hid ⟨h3.1, rc1.keep h3.2.2.2, rc2.keep h3.2.2.2⟩
  have KW := Lib.hid h3.2.2.2
  have HW3 := Lib.hid hW3
  clear ra1 ra2 rb1 rb2 rc1 rc2 h3 hW3
  unfold opV
  go_enter Tryz.func63, Tryz.ntmps63
  go_upto_region 1 with fail
  rw [← HW3.out]
  clear HW3
  obtain ⟨ca0, ca1, ca2, ca3, ca4, ca5, ca6⟩ := blk6 HA.out.1
  go_wp2_with fail
  refine (rread_any _ a _ HA.out.at_).mono ?_
  rintro e w0 ⟨rfl, hb⟩
  clear ca0 ca1 ca2 ca3 ca4 ca5 ca6
  replace HA := Lib.hid (HA.out.on hb)
  replace HB := Lib.hid (HB.out.on hb)
  replace HC := Lib.hid (HC.out.on hb)
  replace KW := Lib.hid (KW.out.trans (hb.mono KW.out.size))
  clear hb
  cases h0 : rdO a with
  | false =>
    have HE : Hid (hold3 a b = false) := Lib.hid (by unfold hold3; simp [h0])
    clear HA HB HC
    go_wp2
    go_ret
    exact ⟨ret_bool HE.out.symm, KW.out⟩
  | true =>
    obtain ⟨cb0, cb1, cb2, cb3, cb4, cb5, cb6⟩ := blk6 HB.out.1
    go_wp2_with fail
    refine (rupdate_any _ b _ HB.out.at_).mono ?_
    rintro e w1 ⟨rfl, hb⟩
    clear cb0 cb1 cb2 cb3 cb4 cb5 cb6
    replace HA := Lib.hid (HA.out.on hb)
    replace HB := Lib.hid (HB.out.on hb)
    replace HC := Lib.hid (HC.out.on hb)
    replace KW := Lib.hid (KW.out.trans (hb.mono KW.out.size))
    clear hb
    cases h1 : upO b with
    | false =>
      have HE : Hid (hold3 a b = false) := Lib.hid (by unfold hold3; simp [h1])
      clear HA HB HC
      go_wp2
      go_ret
      exact ⟨ret_bool HE.out.symm, KW.out⟩
    | true =>
      obtain ⟨ca0, ca1, ca2, ca3, ca4, ca5, ca6⟩ := blk6 HA.out.1
      obtain ⟨cb0, cb1, cb2, cb3, cb4, cb5, cb6⟩ := blk6 HB.out.1
      go_wp2_with fail
      refine (rshows_any _ _ a b _ HA.out.at_ HB.out.at_ (by omega)).mono ?_
      rintro e w2 ⟨rfl, hb⟩
      clear ca0 ca1 ca2 ca3 ca4 ca5 ca6 cb0 cb1 cb2 cb3 cb4 cb5 cb6
      replace HA := Lib.hid (HA.out.on hb)
      replace HB := Lib.hid (HB.out.on hb)
      replace HC := Lib.hid (HC.out.on hb)
      replace KW := Lib.hid (KW.out.trans (hb.mono KW.out.size))
      clear hb
      cases h2 : shO a b with
      | true =>
        have HE : Hid (hold3 a b = false) := Lib.hid (by unfold hold3; simp [h2])
        clear HA HB HC
        go_wp2
        go_ret
        exact ⟨ret_bool HE.out.symm, KW.out⟩
      | false =>
        obtain ⟨cb0, cb1, cb2, cb3, cb4, cb5, cb6⟩ := blk6 HB.out.1
        obtain ⟨ca0, ca1, ca2, ca3, ca4, ca5, ca6⟩ := blk6 HA.out.1
        go_wp2_with fail
        refine (inter_any _ _ (addO b) (seeO a) _ HB.out.2.1 HA.out.2.2 (by omega)).mono ?_
        rintro e w3 ⟨v9, rfl, hr9, hb⟩
        replace KW := Lib.hid (KW.out.trans (hb.mono KW.out.size))
        obtain ⟨a9, c9, rfl, -, -, -, -⟩ := hr9
        clear hb cb0 cb1 cb2 cb3 cb4 cb5 cb6 ca0 ca1 ca2 ca3 ca4 ca5 ca6
        by_cases h3 : interL (addO b) (seeO a) = []
        · have HE : Hid (hold3 a b = false) := Lib.hid (by unfold hold3 inB; rw [decide_eq_false (by rw [h3]; simp)]; simp)
          rw [h3]
          clear h3
          go_wp2
          go_ret
          exact ⟨ret_bool HE.out.symm, KW.out⟩
        · have HE : Hid (hold3 a b = true) := Lib.hid (by unfold hold3 inB; rw [decide_eq_true h3, h0, h1, h2]; rfl)
          have hp : 0 < (interL (addO b) (seeO a)).length := List.length_pos_iff.2 h3
          generalize (interL (addO b) (seeO a)).length = n at *
          have hpi : (0 : Int) < (n : Int) := by omega
          clear h3
          go_wp2
          go_ret
          exact ⟨ret_bool HE.out.symm, KW.out⟩
set_option maxRecDepth 100000 in
set_option maxHeartbeats 8000000 in
theorem holds4_any (va vb vc : Value) (a b c : Opn) (W : World) (ha : OpAt W va a) (hb : OpAt W vb b) (hc : OpAt W vc c) (la : fitO a) (lb : fitO b) (lc : fitO c) :
    Calls Tryz.prog 63 #[.int .i64 4, va, vb, vc] W (BoolMade W (hold4 a b)) := by
  obtain ⟨va1, va2, rfl, ra1, ra2⟩ := ha
  obtain ⟨vb1, vb2, rfl, rb1, rb2⟩ := hb
  obtain ⟨vc1, vc2, rfl, rc1, rc2⟩ := hc
  obtain ⟨xa, na, ca, rfl⟩ := Slc.of_reads ra1
  obtain ⟨ya, ma, da, rfl⟩ := Slc.of_reads ra2
  obtain ⟨xb, nb, cb, rfl⟩ := Slc.of_reads rb1
  obtain ⟨yb, mb, db, rfl⟩ := Slc.of_reads rb2
  obtain ⟨xc, nc, cc, rfl⟩ := Slc.of_reads rc1
  obtain ⟨yc, mc, dc, rfl⟩ := Slc.of_reads rc2
  have la1 := la.1
  have la2 := la.2
  have lb1 := lb.1
  have lb2 := lb.2
  have lc1 := lc.1
  have lc2 := lc.2
  clear la lb lc
  obtain ⟨W3, hW3⟩ : ∃ W3, W3 = (((W.alloc (.cells #[.int .i64 (cliO a), .int .i64 (kindO a), .int .i64 (begO a), .int .i64 (endO a), .slice xa na ca, .slice ya ma da] 39)).alloc (.cells #[.int .i64 (cliO b), .int .i64 (kindO b), .int .i64 (begO b), .int .i64 (endO b), .slice xb nb cb, .slice yb mb db] 39)).alloc (.cells #[.int .i64 (cliO c), .int .i64 (kindO c), .int .i64 (begO c), .int .i64 (endO c), .slice xc nc cc, .slice yc mc dc] 39)) := ⟨_, rfl⟩
  have h3 := three_blk W 39 39 39 #[.int .i64 (cliO a), .int .i64 (kindO a), .int .i64 (begO a), .int .i64 (endO a), .slice xa na ca, .slice ya ma da] #[.int .i64 (cliO b), .int .i64 (kindO b), .int .i64 (begO b), .int .i64 (endO b), .slice xb nb cb, .slice yb mb db] #[.int .i64 (cliO c), .int .i64 (kindO c), .int .i64 (begO c), .int .i64 (endO c), .slice xc nc cc, .slice yc mc dc]
  rw [← hW3] at h3
  have HA : Hid (BoxO W3 W.heap.size a (.slice xa na ca) (.slice ya ma da)) := Lib.hid ⟨h3.2.1, ra1.keep h3.2.2.2, ra2.keep h3.2.2.2⟩
  have HB : Hid (BoxO W3 (W.heap.size + 1) b (.slice xb nb cb) (.slice yb mb db)) := Lib.hid ⟨h3.2.2.1, rb1.keep h3.2.2.2, rb2.keep h3.2.2.2⟩
  have HC : Hid (BoxO W3 (W.heap.size + 1 + 1) c (.slice xc nc cc) (.slice yc mc dc)) := Lib.hid ⟨h3.1, rc1.keep h3.2.2.2, rc2.keep h3.2.2.2⟩
  have KW := Lib.hid h3.2.2.2
  have HW3 := Lib.hid hW3
  clear ra1 ra2 rb1 rb2 rc1 rc2 h3 hW3
  unfold opV
  go_enter Tryz.func63, Tryz.ntmps63
  go_upto_region 1 with fail
  rw [← HW3.out]
  clear HW3
  obtain ⟨ca0, ca1, ca2, ca3, ca4, ca5, ca6⟩ := blk6 HA.out.1
  go_wp2_with fail
  refine (rread_any _ a _ HA.out.at_).mono ?_
  rintro e w0 ⟨rfl, hb⟩
  clear ca0 ca1 ca2 ca3 ca4 ca5 ca6
  replace HA := Lib.hid (HA.out.on hb)
  replace HB := Lib.hid (HB.out.on hb)
  replace HC := Lib.hid (HC.out.on hb)
  replace KW := Lib.hid (KW.out.trans (hb.mono KW.out.size))
  clear hb
  cases h0 : rdO a with
  | false =>
    have HE : Hid (hold4 a b = false) := Lib.hid (by unfold hold4; simp [h0])
    clear HA HB HC
    go_wp2
    go_ret
    exact ⟨ret_bool HE.out.symm, KW.out⟩
  | true =>
    obtain ⟨cb0, cb1, cb2, cb3, cb4, cb5, cb6⟩ := blk6 HB.out.1
    go_wp2_with fail
    refine (rread_any _ b _ HB.out.at_).mono ?_
    rintro e w1 ⟨rfl, hb⟩
    clear cb0 cb1 cb2 cb3 cb4 cb5 cb6
    replace HA := Lib.hid (HA.out.on hb)
    replace HB := Lib.hid (HB.out.on hb)
    replace HC := Lib.hid (HC.out.on hb)
    replace KW := Lib.hid (KW.out.trans (hb.mono KW.out.size))
    clear hb
    cases h1 : rdO b with
    | false =>
      have HE : Hid (hold4 a b = false) := Lib.hid (by unfold hold4; simp [h1])
      clear HA HB HC
      go_wp2
      go_ret
      exact ⟨ret_bool HE.out.symm, KW.out⟩
    | true =>
      obtain ⟨ca0, ca1, ca2, ca3, ca4, ca5, ca6⟩ := blk6 HA.out.1
      obtain ⟨cb0, cb1, cb2, cb3, cb4, cb5, cb6⟩ := blk6 HB.out.1
      go_wp2_with fail
      refine (rsub_any _ _ (seeO a) (seeO b) _ HA.out.2.2 HB.out.2.2 (by omega)).mono ?_
      rintro e w2 ⟨rfl, hb⟩
      clear ca0 ca1 ca2 ca3 ca4 ca5 ca6 cb0 cb1 cb2 cb3 cb4 cb5 cb6
      replace HA := Lib.hid (HA.out.on hb)
      replace HB := Lib.hid (HB.out.on hb)
      replace HC := Lib.hid (HC.out.on hb)
      replace KW := Lib.hid (KW.out.trans (hb.mono KW.out.size))
      clear hb
      cases h2 : subB (seeO a) (seeO b) with
      | true =>
        have HE : Hid (hold4 a b = false) := Lib.hid (by unfold hold4; simp [h2])
        clear HA HB HC
        go_wp2
        go_ret
        exact ⟨ret_bool HE.out.symm, KW.out⟩
      | false =>
        obtain ⟨cb0, cb1, cb2, cb3, cb4, cb5, cb6⟩ := blk6 HB.out.1
        obtain ⟨ca0, ca1, ca2, ca3, ca4, ca5, ca6⟩ := blk6 HA.out.1
        go_wp2_with fail
        refine (rsub_any _ _ (seeO b) (seeO a) _ HB.out.2.2 HA.out.2.2 (by omega)).mono ?_
        rintro e w3 ⟨rfl, hb⟩
        clear cb0 cb1 cb2 cb3 cb4 cb5 cb6 ca0 ca1 ca2 ca3 ca4 ca5 ca6
        replace KW := Lib.hid (KW.out.trans (hb.mono KW.out.size))
        clear hb
        cases h3 : subB (seeO b) (seeO a) with
        | true =>
          have HE : Hid (hold4 a b = false) := Lib.hid (by unfold hold4; simp [h3])
          clear HA HB HC
          go_wp2
          go_ret
          exact ⟨ret_bool HE.out.symm, KW.out⟩
        | false =>
          have HE : Hid (hold4 a b = true) := Lib.hid (by unfold hold4; simp [h0, h1, h2, h3])
          clear HA HB HC
          go_wp2
          go_ret
          exact ⟨ret_bool HE.out.symm, KW.out⟩
set_option maxRecDepth 100000 in
set_option maxHeartbeats 8000000 in
theorem holds5_any (va vb vc : Value) (a b c : Opn) (W : World) (ha : OpAt W va a) (hb : OpAt W vb b) (hc : OpAt W vc c) (la : fitO a) (lb : fitO b) (lc : fitO c) :
    Calls Tryz.prog 63 #[.int .i64 5, va, vb, vc] W (BoolMade W (hold5 a b)) := by
  obtain ⟨va1, va2, rfl, ra1, ra2⟩ := ha
  obtain ⟨vb1, vb2, rfl, rb1, rb2⟩ := hb
  obtain ⟨vc1, vc2, rfl, rc1, rc2⟩ := hc
  obtain ⟨xa, na, ca, rfl⟩ := Slc.of_reads ra1
  obtain ⟨ya, ma, da, rfl⟩ := Slc.of_reads ra2
  obtain ⟨xb, nb, cb, rfl⟩ := Slc.of_reads rb1
  obtain ⟨yb, mb, db, rfl⟩ := Slc.of_reads rb2
  obtain ⟨xc, nc, cc, rfl⟩ := Slc.of_reads rc1
  obtain ⟨yc, mc, dc, rfl⟩ := Slc.of_reads rc2
  have la1 := la.1
  have la2 := la.2
  have lb1 := lb.1
  have lb2 := lb.2
  have lc1 := lc.1
  have lc2 := lc.2
  clear la lb lc
  obtain ⟨W3, hW3⟩ : ∃ W3, W3 = (((W.alloc (.cells #[.int .i64 (cliO a), .int .i64 (kindO a), .int .i64 (begO a), .int .i64 (endO a), .slice xa na ca, .slice ya ma da] 39)).alloc (.cells #[.int .i64 (cliO b), .int .i64 (kindO b), .int .i64 (begO b), .int .i64 (endO b), .slice xb nb cb, .slice yb mb db] 39)).alloc (.cells #[.int .i64 (cliO c), .int .i64 (kindO c), .int .i64 (begO c), .int .i64 (endO c), .slice xc nc cc, .slice yc mc dc] 39)) := ⟨_, rfl⟩
  have h3 := three_blk W 39 39 39 #[.int .i64 (cliO a), .int .i64 (kindO a), .int .i64 (begO a), .int .i64 (endO a), .slice xa na ca, .slice ya ma da] #[.int .i64 (cliO b), .int .i64 (kindO b), .int .i64 (begO b), .int .i64 (endO b), .slice xb nb cb, .slice yb mb db] #[.int .i64 (cliO c), .int .i64 (kindO c), .int .i64 (begO c), .int .i64 (endO c), .slice xc nc cc, .slice yc mc dc]
  rw [← hW3] at h3
  have HA : Hid (BoxO W3 W.heap.size a (.slice xa na ca) (.slice ya ma da)) := Lib.hid ⟨h3.2.1, ra1.keep h3.2.2.2, ra2.keep h3.2.2.2⟩
  have HB : Hid (BoxO W3 (W.heap.size + 1) b (.slice xb nb cb) (.slice yb mb db)) := Lib.hid ⟨h3.2.2.1, rb1.keep h3.2.2.2, rb2.keep h3.2.2.2⟩
  have HC : Hid (BoxO W3 (W.heap.size + 1 + 1) c (.slice xc nc cc) (.slice yc mc dc)) := Lib.hid ⟨h3.1, rc1.keep h3.2.2.2, rc2.keep h3.2.2.2⟩
  have KW := Lib.hid h3.2.2.2
  have HW3 := Lib.hid hW3
  clear ra1 ra2 rb1 rb2 rc1 rc2 h3 hW3
  unfold opV
  go_enter Tryz.func63, Tryz.ntmps63
  go_upto_region 1 with fail
  rw [← HW3.out]
  clear HW3
  obtain ⟨ca0, ca1, ca2, ca3, ca4, ca5, ca6⟩ := blk6 HA.out.1
  go_wp2_with fail
  refine (rread_any _ a _ HA.out.at_).mono ?_
  rintro e w0 ⟨rfl, hb⟩
  clear ca0 ca1 ca2 ca3 ca4 ca5 ca6
  replace HA := Lib.hid (HA.out.on hb)
  replace HB := Lib.hid (HB.out.on hb)
  replace HC := Lib.hid (HC.out.on hb)
  replace KW := Lib.hid (KW.out.trans (hb.mono KW.out.size))
  clear hb
  cases h0 : rdO a with
  | false =>
    have HE : Hid (hold5 a b = false) := Lib.hid (by unfold hold5; simp [h0])
    clear HA HB HC
    go_wp2
    go_ret
    exact ⟨ret_bool HE.out.symm, KW.out⟩
  | true =>
    obtain ⟨cb0, cb1, cb2, cb3, cb4, cb5, cb6⟩ := blk6 HB.out.1
    go_wp2_with fail
    refine (rupdate_any _ b _ HB.out.at_).mono ?_
    rintro e w1 ⟨rfl, hb⟩
    clear cb0 cb1 cb2 cb3 cb4 cb5 cb6
    replace HA := Lib.hid (HA.out.on hb)
    replace HB := Lib.hid (HB.out.on hb)
    replace HC := Lib.hid (HC.out.on hb)
    replace KW := Lib.hid (KW.out.trans (hb.mono KW.out.size))
    clear hb
    cases h1 : upO b with
    | false =>
      have HE : Hid (hold5 a b = false) := Lib.hid (by unfold hold5; simp [h1])
      clear HA HB HC
      go_wp2
      go_ret
      exact ⟨ret_bool HE.out.symm, KW.out⟩
    | true =>
      obtain ⟨ca0, ca1, ca2, ca3, ca4, ca5, ca6⟩ := blk6 HA.out.1
      obtain ⟨cb0, cb1, cb2, cb3, cb4, cb5, cb6⟩ := blk6 HB.out.1
      go_wp2_with fail
      refine (rbefore_any _ _ a b _ HA.out.at_ HB.out.at_).mono ?_
      rintro e w2 ⟨rfl, hb⟩
      clear ca0 ca1 ca2 ca3 ca4 ca5 ca6 cb0 cb1 cb2 cb3 cb4 cb5 cb6
      replace HA := Lib.hid (HA.out.on hb)
      replace HB := Lib.hid (HB.out.on hb)
      replace HC := Lib.hid (HC.out.on hb)
      replace KW := Lib.hid (KW.out.trans (hb.mono KW.out.size))
      clear hb
      cases h2 : befO a b with
      | false =>
        have HE : Hid (hold5 a b = false) := Lib.hid (by unfold hold5; simp [h2])
        clear HA HB HC
        go_wp2
        go_ret
        exact ⟨ret_bool HE.out.symm, KW.out⟩
      | true =>
        obtain ⟨ca0, ca1, ca2, ca3, ca4, ca5, ca6⟩ := blk6 HA.out.1
        obtain ⟨cb0, cb1, cb2, cb3, cb4, cb5, cb6⟩ := blk6 HB.out.1
        go_wp2_with fail
        refine (rshows_any _ _ a b _ HA.out.at_ HB.out.at_ (by omega)).mono ?_
        rintro e w3 ⟨rfl, hb⟩
        clear ca0 ca1 ca2 ca3 ca4 ca5 ca6 cb0 cb1 cb2 cb3 cb4 cb5 cb6
        replace KW := Lib.hid (KW.out.trans (hb.mono KW.out.size))
        clear hb
        cases h3 : shO a b with
        | false =>
          have HE : Hid (hold5 a b = false) := Lib.hid (by unfold hold5; simp [h3])
          clear HA HB HC
          go_wp2
          go_ret
          exact ⟨ret_bool HE.out.symm, KW.out⟩
        | true =>
          have HE : Hid (hold5 a b = true) := Lib.hid (by unfold hold5; simp [h0, h1, h2, h3])
          clear HA HB HC
          go_wp2
          go_ret
          exact ⟨ret_bool HE.out.symm, KW.out⟩
set_option maxRecDepth 100000 in
set_option maxHeartbeats 8000000 in
theorem holds6_any (va vb vc : Value) (a b c : Opn) (W : World) (ha : OpAt W va a) (hb : OpAt W vb b) (hc : OpAt W vc c) (la : fitO a) (lb : fitO b) (lc : fitO c) :
    Calls Tryz.prog 63 #[.int .i64 6, va, vb, vc] W (BoolMade W (hold6 a b)) := by
  obtain ⟨va1, va2, rfl, ra1, ra2⟩ := ha
  obtain ⟨vb1, vb2, rfl, rb1, rb2⟩ := hb
  obtain ⟨vc1, vc2, rfl, rc1, rc2⟩ := hc
  obtain ⟨xa, na, ca, rfl⟩ := Slc.of_reads ra1
  obtain ⟨ya, ma, da, rfl⟩ := Slc.of_reads ra2
  obtain ⟨xb, nb, cb, rfl⟩ := Slc.of_reads rb1
  obtain ⟨yb, mb, db, rfl⟩ := Slc.of_reads rb2
  obtain ⟨xc, nc, cc, rfl⟩ := Slc.of_reads rc1
  obtain ⟨yc, mc, dc, rfl⟩ := Slc.of_reads rc2
  have la1 := la.1
  have la2 := la.2
  have lb1 := lb.1
  have lb2 := lb.2
  have lc1 := lc.1
  have lc2 := lc.2
  clear la lb lc
  obtain ⟨W3, hW3⟩ : ∃ W3, W3 = (((W.alloc (.cells #[.int .i64 (cliO a), .int .i64 (kindO a), .int .i64 (begO a), .int .i64 (endO a), .slice xa na ca, .slice ya ma da] 39)).alloc (.cells #[.int .i64 (cliO b), .int .i64 (kindO b), .int .i64 (begO b), .int .i64 (endO b), .slice xb nb cb, .slice yb mb db] 39)).alloc (.cells #[.int .i64 (cliO c), .int .i64 (kindO c), .int .i64 (begO c), .int .i64 (endO c), .slice xc nc cc, .slice yc mc dc] 39)) := ⟨_, rfl⟩
  have h3 := three_blk W 39 39 39 #[.int .i64 (cliO a), .int .i64 (kindO a), .int .i64 (begO a), .int .i64 (endO a), .slice xa na ca, .slice ya ma da] #[.int .i64 (cliO b), .int .i64 (kindO b), .int .i64 (begO b), .int .i64 (endO b), .slice xb nb cb, .slice yb mb db] #[.int .i64 (cliO c), .int .i64 (kindO c), .int .i64 (begO c), .int .i64 (endO c), .slice xc nc cc, .slice yc mc dc]
  rw [← hW3] at h3
  have HA : Hid (BoxO W3 W.heap.size a (.slice xa na ca) (.slice ya ma da)) := Lib.hid ⟨h3.2.1, ra1.keep h3.2.2.2, ra2.keep h3.2.2.2⟩
  have HB : Hid (BoxO W3 (W.heap.size + 1) b (.slice xb nb cb) (.slice yb mb db)) := Lib.hid ⟨h3.2.2.1, rb1.keep h3.2.2.2, rb2.keep h3.2.2.2⟩
  have HC : Hid (BoxO W3 (W.heap.size + 1 + 1) c (.slice xc nc cc) (.slice yc mc dc)) := Lib.hid ⟨h3.1, rc1.keep h3.2.2.2, rc2.keep h3.2.2.2⟩
  have KW := Lib.hid h3.2.2.2
  have HW3 := Lib.hid hW3
  clear ra1 ra2 rb1 rb2 rc1 rc2 h3 hW3
  unfold opV
  go_enter Tryz.func63, Tryz.ntmps63
  go_upto_region 1 with fail
  rw [← HW3.out]
  clear HW3
  obtain ⟨ca0, ca1, ca2, ca3, ca4, ca5, ca6⟩ := blk6 HA.out.1
  go_wp2_with fail
  refine (rupdate_any _ a _ HA.out.at_).mono ?_
  rintro e w0 ⟨rfl, hb⟩
  clear ca0 ca1 ca2 ca3 ca4 ca5 ca6
  replace HA := Lib.hid (HA.out.on hb)
  replace HB := Lib.hid (HB.out.on hb)
  replace HC := Lib.hid (HC.out.on hb)
  replace KW := Lib.hid (KW.out.trans (hb.mono KW.out.size))
  clear hb
  cases h0 : upO a with
  | false =>
    have HE : Hid (hold6 a b = false) := Lib.hid (by unfold hold6; simp [h0])
    clear HA HB HC
    go_wp2
    go_ret
    exact ⟨ret_bool HE.out.symm, KW.out⟩
  | true =>
    obtain ⟨cb0, cb1, cb2, cb3, cb4, cb5, cb6⟩ := blk6 HB.out.1
    go_wp2_with fail
    refine (rread_any _ b _ HB.out.at_).mono ?_
    rintro e w1 ⟨rfl, hb⟩
    clear cb0 cb1 cb2 cb3 cb4 cb5 cb6
    replace HA := Lib.hid (HA.out.on hb)
    replace HB := Lib.hid (HB.out.on hb)
    replace HC := Lib.hid (HC.out.on hb)
    replace KW := Lib.hid (KW.out.trans (hb.mono KW.out.size))
    clear hb
    cases h1 : rdO b with
    | false =>
      have HE : Hid (hold6 a b = false) := Lib.hid (by unfold hold6; simp [h1])
      clear HA HB HC
      go_wp2
      go_ret
      exact ⟨ret_bool HE.out.symm, KW.out⟩
    | true =>
      obtain ⟨ca0, ca1, ca2, ca3, ca4, ca5, ca6⟩ := blk6 HA.out.1
      obtain ⟨cb0, cb1, cb2, cb3, cb4, cb5, cb6⟩ := blk6 HB.out.1
      go_wp2_with fail
      refine (rbefore_any _ _ a b _ HA.out.at_ HB.out.at_).mono ?_
      rintro e w2 ⟨rfl, hb⟩
      clear ca0 ca1 ca2 ca3 ca4 ca5 ca6 cb0 cb1 cb2 cb3 cb4 cb5 cb6
      replace HA := Lib.hid (HA.out.on hb)
      replace HB := Lib.hid (HB.out.on hb)
      replace HC := Lib.hid (HC.out.on hb)
      replace KW := Lib.hid (KW.out.trans (hb.mono KW.out.size))
      clear hb
      cases h2 : befO a b with
      | false =>
        have HE : Hid (hold6 a b = false) := Lib.hid (by unfold hold6; simp [h2])
        clear HA HB HC
        go_wp2
        go_ret
        exact ⟨ret_bool HE.out.symm, KW.out⟩
      | true =>
        obtain ⟨cb0, cb1, cb2, cb3, cb4, cb5, cb6⟩ := blk6 HB.out.1
        obtain ⟨ca0, ca1, ca2, ca3, ca4, ca5, ca6⟩ := blk6 HA.out.1
        go_wp2_with fail
        refine (rshows_any _ _ b a _ HB.out.at_ HA.out.at_ (by omega)).mono ?_
        rintro e w3 ⟨rfl, hb⟩
        clear cb0 cb1 cb2 cb3 cb4 cb5 cb6 ca0 ca1 ca2 ca3 ca4 ca5 ca6
        replace KW := Lib.hid (KW.out.trans (hb.mono KW.out.size))
        clear hb
        cases h3 : shO b a with
        | true =>
          have HE : Hid (hold6 a b = false) := Lib.hid (by unfold hold6; simp [h3])
          clear HA HB HC
          go_wp2
          go_ret
          exact ⟨ret_bool HE.out.symm, KW.out⟩
        | false =>
          have HE : Hid (hold6 a b = true) := Lib.hid (by unfold hold6; simp [h0, h1, h2, h3])
          clear HA HB HC
          go_wp2
          go_ret
          exact ⟨ret_bool HE.out.symm, KW.out⟩
set_option maxRecDepth 100000 in
set_option maxHeartbeats 8000000 in
theorem holds7_any (va vb vc : Value) (a b c : Opn) (W : World) (ha : OpAt W va a) (hb : OpAt W vb b) (hc : OpAt W vc c) (la : fitO a) (lb : fitO b) (lc : fitO c) :
    Calls Tryz.prog 63 #[.int .i64 7, va, vb, vc] W (BoolMade W (hold7 a b)) := by
  obtain ⟨va1, va2, rfl, ra1, ra2⟩ := ha
  obtain ⟨vb1, vb2, rfl, rb1, rb2⟩ := hb
  obtain ⟨vc1, vc2, rfl, rc1, rc2⟩ := hc
  obtain ⟨xa, na, ca, rfl⟩ := Slc.of_reads ra1
  obtain ⟨ya, ma, da, rfl⟩ := Slc.of_reads ra2
  obtain ⟨xb, nb, cb, rfl⟩ := Slc.of_reads rb1
  obtain ⟨yb, mb, db, rfl⟩ := Slc.of_reads rb2
  obtain ⟨xc, nc, cc, rfl⟩ := Slc.of_reads rc1
  obtain ⟨yc, mc, dc, rfl⟩ := Slc.of_reads rc2
  have la1 := la.1
  have la2 := la.2
  have lb1 := lb.1
  have lb2 := lb.2
  have lc1 := lc.1
  have lc2 := lc.2
  clear la lb lc
  obtain ⟨W3, hW3⟩ : ∃ W3, W3 = (((W.alloc (.cells #[.int .i64 (cliO a), .int .i64 (kindO a), .int .i64 (begO a), .int .i64 (endO a), .slice xa na ca, .slice ya ma da] 39)).alloc (.cells #[.int .i64 (cliO b), .int .i64 (kindO b), .int .i64 (begO b), .int .i64 (endO b), .slice xb nb cb, .slice yb mb db] 39)).alloc (.cells #[.int .i64 (cliO c), .int .i64 (kindO c), .int .i64 (begO c), .int .i64 (endO c), .slice xc nc cc, .slice yc mc dc] 39)) := ⟨_, rfl⟩
  have h3 := three_blk W 39 39 39 #[.int .i64 (cliO a), .int .i64 (kindO a), .int .i64 (begO a), .int .i64 (endO a), .slice xa na ca, .slice ya ma da] #[.int .i64 (cliO b), .int .i64 (kindO b), .int .i64 (begO b), .int .i64 (endO b), .slice xb nb cb, .slice yb mb db] #[.int .i64 (cliO c), .int .i64 (kindO c), .int .i64 (begO c), .int .i64 (endO c), .slice xc nc cc, .slice yc mc dc]
  rw [← hW3] at h3
  have HA : Hid (BoxO W3 W.heap.size a (.slice xa na ca) (.slice ya ma da)) := Lib.hid ⟨h3.2.1, ra1.keep h3.2.2.2, ra2.keep h3.2.2.2⟩
  have HB : Hid (BoxO W3 (W.heap.size + 1) b (.slice xb nb cb) (.slice yb mb db)) := Lib.hid ⟨h3.2.2.1, rb1.keep h3.2.2.2, rb2.keep h3.2.2.2⟩
  have HC : Hid (BoxO W3 (W.heap.size + 1 + 1) c (.slice xc nc cc) (.slice yc mc dc)) := Lib.hid ⟨h3.1, rc1.keep h3.2.2.2, rc2.keep h3.2.2.2⟩
  have KW := Lib.hid h3.2.2.2
  have HW3 := Lib.hid hW3
  clear ra1 ra2 rb1 rb2 rc1 rc2 h3 hW3
  unfold opV
  go_enter Tryz.func63, Tryz.ntmps63
  go_upto_region 1 with fail
  rw [← HW3.out]
  clear HW3
  obtain ⟨ca0, ca1, ca2, ca3, ca4, ca5, ca6⟩ := blk6 HA.out.1
  go_wp2_with fail
  refine (rread_any _ a _ HA.out.at_).mono ?_
  rintro e w0 ⟨rfl, hb⟩
  clear ca0 ca1 ca2 ca3 ca4 ca5 ca6
  replace HA := Lib.hid (HA.out.on hb)
  replace HB := Lib.hid (HB.out.on hb)
  replace HC := Lib.hid (HC.out.on hb)
  replace KW := Lib.hid (KW.out.trans (hb.mono KW.out.size))
  clear hb
  cases h0 : rdO a with
  | false =>
    have HE : Hid (hold7 a b = false) := Lib.hid (by unfold hold7; simp [h0])
    clear HA HB HC
    go_wp2
    go_ret
    exact ⟨ret_bool HE.out.symm, KW.out⟩
  | true =>
    obtain ⟨cb0, cb1, cb2, cb3, cb4, cb5, cb6⟩ := blk6 HB.out.1
    go_wp2_with fail
    refine (rread_any _ b _ HB.out.at_).mono ?_
    rintro e w1 ⟨rfl, hb⟩
    clear cb0 cb1 cb2 cb3 cb4 cb5 cb6
    replace HA := Lib.hid (HA.out.on hb)
    replace HB := Lib.hid (HB.out.on hb)
    replace HC := Lib.hid (HC.out.on hb)
    replace KW := Lib.hid (KW.out.trans (hb.mono KW.out.size))
    clear hb
    cases h1 : rdO b with
    | false =>
      have HE : Hid (hold7 a b = false) := Lib.hid (by unfold hold7; simp [h1])
      clear HA HB HC
      go_wp2
      go_ret
      exact ⟨ret_bool HE.out.symm, KW.out⟩
    | true =>
      obtain ⟨ca0, ca1, ca2, ca3, ca4, ca5, ca6⟩ := blk6 HA.out.1
      obtain ⟨cb0, cb1, cb2, cb3, cb4, cb5, cb6⟩ := blk6 HB.out.1
      go_wp2_with fail
      refine (rbefore_any _ _ a b _ HA.out.at_ HB.out.at_).mono ?_
      rintro e w2 ⟨rfl, hb⟩
      clear ca0 ca1 ca2 ca3 ca4 ca5 ca6 cb0 cb1 cb2 cb3 cb4 cb5 cb6
      replace HA := Lib.hid (HA.out.on hb)
      replace HB := Lib.hid (HB.out.on hb)
      replace HC := Lib.hid (HC.out.on hb)
      replace KW := Lib.hid (KW.out.trans (hb.mono KW.out.size))
      clear hb
      cases h2 : befO a b with
      | false =>
        have HE : Hid (hold7 a b = false) := Lib.hid (by unfold hold7; simp [h2])
        clear HA HB HC
        go_wp2
        go_ret
        exact ⟨ret_bool HE.out.symm, KW.out⟩
      | true =>
        obtain ⟨ca0, ca1, ca2, ca3, ca4, ca5, ca6⟩ := blk6 HA.out.1
        obtain ⟨cb0, cb1, cb2, cb3, cb4, cb5, cb6⟩ := blk6 HB.out.1
        go_wp2_with fail
        refine (rsub_any _ _ (seeO a) (seeO b) _ HA.out.2.2 HB.out.2.2 (by omega)).mono ?_
        rintro e w3 ⟨rfl, hb⟩
        clear ca0 ca1 ca2 ca3 ca4 ca5 ca6 cb0 cb1 cb2 cb3 cb4 cb5 cb6
        replace KW := Lib.hid (KW.out.trans (hb.mono KW.out.size))
        clear hb
        cases h3 : subB (seeO a) (seeO b) with
        | true =>
          have HE : Hid (hold7 a b = false) := Lib.hid (by unfold hold7; simp [h3])
          clear HA HB HC
          go_wp2
          go_ret
          exact ⟨ret_bool HE.out.symm, KW.out⟩
        | false =>
          have HE : Hid (hold7 a b = true) := Lib.hid (by unfold hold7; simp [h0, h1, h2, h3])
          clear HA HB HC
          go_wp2
          go_ret
          exact ⟨ret_bool HE.out.symm, KW.out⟩
set_option maxRecDepth 100000 in
set_option maxHeartbeats 8000000 in
theorem holds8_any (va vb vc : Value) (a b c : Opn) (W : World) (ha : OpAt W va a) (hb : OpAt W vb b) (hc : OpAt W vc c) (la : fitO a) (lb : fitO b) (lc : fitO c) :
    Calls Tryz.prog 63 #[.int .i64 8, va, vb, vc] W (BoolMade W (hold8 a b c)) := by
  obtain ⟨va1, va2, rfl, ra1, ra2⟩ := ha
  obtain ⟨vb1, vb2, rfl, rb1, rb2⟩ := hb
  obtain ⟨vc1, vc2, rfl, rc1, rc2⟩ := hc
  obtain ⟨xa, na, ca, rfl⟩ := Slc.of_reads ra1
  obtain ⟨ya, ma, da, rfl⟩ := Slc.of_reads ra2
  obtain ⟨xb, nb, cb, rfl⟩ := Slc.of_reads rb1
  obtain ⟨yb, mb, db, rfl⟩ := Slc.of_reads rb2
  obtain ⟨xc, nc, cc, rfl⟩ := Slc.of_reads rc1
  obtain ⟨yc, mc, dc, rfl⟩ := Slc.of_reads rc2
  have la1 := la.1
  have la2 := la.2
  have lb1 := lb.1
  have lb2 := lb.2
  have lc1 := lc.1
  have lc2 := lc.2
  clear la lb lc
  obtain ⟨W3, hW3⟩ : ∃ W3, W3 = (((W.alloc (.cells #[.int .i64 (cliO a), .int .i64 (kindO a), .int .i64 (begO a), .int .i64 (endO a), .slice xa na ca, .slice ya ma da] 39)).alloc (.cells #[.int .i64 (cliO b), .int .i64 (kindO b), .int .i64 (begO b), .int .i64 (endO b), .slice xb nb cb, .slice yb mb db] 39)).alloc (.cells #[.int .i64 (cliO c), .int .i64 (kindO c), .int .i64 (begO c), .int .i64 (endO c), .slice xc nc cc, .slice yc mc dc] 39)) := ⟨_, rfl⟩
  have h3 := three_blk W 39 39 39 #[.int .i64 (cliO a), .int .i64 (kindO a), .int .i64 (begO a), .int .i64 (endO a), .slice xa na ca, .slice ya ma da] #[.int .i64 (cliO b), .int .i64 (kindO b), .int .i64 (begO b), .int .i64 (endO b), .slice xb nb cb, .slice yb mb db] #[.int .i64 (cliO c), .int .i64 (kindO c), .int .i64 (begO c), .int .i64 (endO c), .slice xc nc cc, .slice yc mc dc]
  rw [← hW3] at h3
  have HA : Hid (BoxO W3 W.heap.size a (.slice xa na ca) (.slice ya ma da)) := Lib.hid ⟨h3.2.1, ra1.keep h3.2.2.2, ra2.keep h3.2.2.2⟩
  have HB : Hid (BoxO W3 (W.heap.size + 1) b (.slice xb nb cb) (.slice yb mb db)) := Lib.hid ⟨h3.2.2.1, rb1.keep h3.2.2.2, rb2.keep h3.2.2.2⟩
  have HC : Hid (BoxO W3 (W.heap.size + 1 + 1) c (.slice xc nc cc) (.slice yc mc dc)) := Lib.hid ⟨h3.1, rc1.keep h3.2.2.2, rc2.keep h3.2.2.2⟩
  have KW := Lib.hid h3.2.2.2
  have HW3 := Lib.hid hW3
  clear ra1 ra2 rb1 rb2 rc1 rc2 h3 hW3
  unfold opV
  go_enter Tryz.func63, Tryz.ntmps63
  go_upto_region 1 with fail
  rw [← HW3.out]
  clear HW3
  obtain ⟨ca0, ca1, ca2, ca3, ca4, ca5, ca6⟩ := blk6 HA.out.1
  go_wp2_with fail
  refine (rupdate_any _ a _ HA.out.at_).mono ?_
  rintro e w0 ⟨rfl, hb⟩
  clear ca0 ca1 ca2 ca3 ca4 ca5 ca6
  replace HA := Lib.hid (HA.out.on hb)
  replace HB := Lib.hid (HB.out.on hb)
  replace HC := Lib.hid (HC.out.on hb)
  replace KW := Lib.hid (KW.out.trans (hb.mono KW.out.size))
  clear hb
  cases h0 : upO a with
  | false =>
    have HE : Hid (hold8 a b c = false) := Lib.hid (by unfold hold8; simp [h0])
    clear HA HB HC
    go_wp2
    go_ret
    exact ⟨ret_bool HE.out.symm, KW.out⟩
  | true =>
    obtain ⟨cb0, cb1, cb2, cb3, cb4, cb5, cb6⟩ := blk6 HB.out.1
    go_wp2_with fail
    refine (rupdate_any _ b _ HB.out.at_).mono ?_
    rintro e w1 ⟨rfl, hb⟩
    clear cb0 cb1 cb2 cb3 cb4 cb5 cb6
    replace HA := Lib.hid (HA.out.on hb)
    replace HB := Lib.hid (HB.out.on hb)
    replace HC := Lib.hid (HC.out.on hb)
    replace KW := Lib.hid (KW.out.trans (hb.mono KW.out.size))
    clear hb
    cases h1 : upO b with
    | false =>
      have HE : Hid (hold8 a b c = false) := Lib.hid (by unfold hold8; simp [h1])
      clear HA HB HC
      go_wp2
      go_ret
      exact ⟨ret_bool HE.out.symm, KW.out⟩
    | true =>
      obtain ⟨cc0, cc1, cc2, cc3, cc4, cc5, cc6⟩ := blk6 HC.out.1
      go_wp2_with fail
      refine (rread_any _ c _ HC.out.at_).mono ?_
      rintro e w2 ⟨rfl, hb⟩
      clear cc0 cc1 cc2 cc3 cc4 cc5 cc6
      replace HA := Lib.hid (HA.out.on hb)
      replace HB := Lib.hid (HB.out.on hb)
      replace HC := Lib.hid (HC.out.on hb)
      replace KW := Lib.hid (KW.out.trans (hb.mono KW.out.size))
      clear hb
      cases h2 : rdO c with
      | false =>
        have HE : Hid (hold8 a b c = false) := Lib.hid (by unfold hold8; simp [h2])
        clear HA HB HC
        go_wp2
        go_ret
        exact ⟨ret_bool HE.out.symm, KW.out⟩
      | true =>
        obtain ⟨ca0, ca1, ca2, ca3, ca4, ca5, ca6⟩ := blk6 HA.out.1
        obtain ⟨cb0, cb1, cb2, cb3, cb4, cb5, cb6⟩ := blk6 HB.out.1
        go_wp2_with fail
        refine (rbefore_any _ _ a b _ HA.out.at_ HB.out.at_).mono ?_
        rintro e w3 ⟨rfl, hb⟩
        clear ca0 ca1 ca2 ca3 ca4 ca5 ca6 cb0 cb1 cb2 cb3 cb4 cb5 cb6
        replace HA := Lib.hid (HA.out.on hb)
        replace HB := Lib.hid (HB.out.on hb)
        replace HC := Lib.hid (HC.out.on hb)
        replace KW := Lib.hid (KW.out.trans (hb.mono KW.out.size))
        clear hb
        cases h3 : befO a b with
        | false =>
          have HE : Hid (hold8 a b c = false) := Lib.hid (by unfold hold8; simp [h3])
          clear HA HB HC
          go_wp2
          go_ret
          exact ⟨ret_bool HE.out.symm, KW.out⟩
        | true =>
          obtain ⟨cc0, cc1, cc2, cc3, cc4, cc5, cc6⟩ := blk6 HC.out.1
          obtain ⟨cb0, cb1, cb2, cb3, cb4, cb5, cb6⟩ := blk6 HB.out.1
          go_wp2_with fail
          refine (rshows_any _ _ c b _ HC.out.at_ HB.out.at_ (by omega)).mono ?_
          rintro e w4 ⟨rfl, hb⟩
          clear cc0 cc1 cc2 cc3 cc4 cc5 cc6 cb0 cb1 cb2 cb3 cb4 cb5 cb6
          replace HA := Lib.hid (HA.out.on hb)
          replace HB := Lib.hid (HB.out.on hb)
          replace HC := Lib.hid (HC.out.on hb)
          replace KW := Lib.hid (KW.out.trans (hb.mono KW.out.size))
          clear hb
          cases h4 : shO c b with
          | false =>
            have HE : Hid (hold8 a b c = false) := Lib.hid (by unfold hold8; simp [h4])
            clear HA HB HC
            go_wp2
            go_ret
            exact ⟨ret_bool HE.out.symm, KW.out⟩
          | true =>
            obtain ⟨cc0, cc1, cc2, cc3, cc4, cc5, cc6⟩ := blk6 HC.out.1
            obtain ⟨ca0, ca1, ca2, ca3, ca4, ca5, ca6⟩ := blk6 HA.out.1
            go_wp2_with fail
            refine (rshows_any _ _ c a _ HC.out.at_ HA.out.at_ (by omega)).mono ?_
            rintro e w5 ⟨rfl, hb⟩
            clear cc0 cc1 cc2 cc3 cc4 cc5 cc6 ca0 ca1 ca2 ca3 ca4 ca5 ca6
            replace KW := Lib.hid (KW.out.trans (hb.mono KW.out.size))
            clear hb
            cases h5 : shO c a with
            | true =>
              have HE : Hid (hold8 a b c = false) := Lib.hid (by unfold hold8; simp [h5])
              clear HA HB HC
              go_wp2
              go_ret
              exact ⟨ret_bool HE.out.symm, KW.out⟩
            | false =>
              have HE : Hid (hold8 a b c = true) := Lib.hid (by unfold hold8; simp [h0, h1, h2, h3, h4, h5])
              clear HA HB HC
              go_wp2
              go_ret
              exact ⟨ret_bool HE.out.symm, KW.out⟩
/-- The condition of a reason. -/
def holdB (r : Nat) (a b c : Opn) : Bool := if r = 3 then hold3 a b else if r = 4 then hold4 a b else if r = 5 then hold5 a b else if r = 6 then hold6 a b else if r = 7 then hold7 a b else if r = 8 then hold8 a b c else false
theorem holds_any (r : Nat) (h3 : 3 ≤ r) (h8 : r ≤ 8) (va vb vc : Value) (a b c : Opn) (W : World) (ha : OpAt W va a) (hb : OpAt W vb b) (hc : OpAt W vc c) (la : fitO a) (lb : fitO b) (lc : fitO c) :
    Calls Tryz.prog 63 #[.int .i64 (r : Int), va, vb, vc] W (BoolMade W (holdB r a b c)) := by
  have h : r = 3 ∨ r = 4 ∨ r = 5 ∨ r = 6 ∨ r = 7 ∨ r = 8 := by omega
  rcases h with rfl | rfl | rfl | rfl | rfl | rfl
  · exact holds3_any va vb vc a b c W ha hb hc la lb lc
  · exact holds4_any va vb vc a b c W ha hb hc la lb lc
  · exact holds5_any va vb vc a b c W ha hb hc la lb lc
  · exact holds6_any va vb vc a b c W ha hb hc la lb lc
  · exact holds7_any va vb vc a b c W ha hb hc la lb lc
  · exact holds8_any va vb vc a b c W ha hb hc la lb lc
end Go.Proofs.YtjijlhjggpibjaaGreat
