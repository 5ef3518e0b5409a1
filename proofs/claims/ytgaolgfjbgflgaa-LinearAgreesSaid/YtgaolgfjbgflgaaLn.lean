/-
  Chapter 56: linear.Count.
-/
import Derived.Test.YtgaolgfjbgflgaaLm
import Derived.Laws.EntriesVeiled
namespace Go.Proofs.Ytgaolgfjbgflgaa
open Go.RowKit

/-- What linear.Count gives. -/
def cntE (h : List Opn) (lim : Int) : Int := if ¬ (chkL h).2 = 0 ∨ lim < 1 then 1 else if ((C h 0 : Nat) : Int) ≤ lim then 0 else 5
def cntN (h : List Opn) (lim : Int) : Int := if cntE h lim = 0 then ((C h 0 : Nat) : Int) else 0
def CMade (w : World) (h : List Opn) (lim : Int) (e : Ending) (w' : World) : Prop := e = .returned (.tuple #[.int .i64 (cntN h lim), .int .i64 (cntE h lim)]) ∧ Below w.heap.size w w'
theorem cmade_one {w w' : World} {h : List Opn} {lim : Int} (he : ¬ (chkL h).2 = 0 ∨ lim < 1) (hb : Below w.heap.size w w') : CMade w h lim (.returned (.tuple #[.int .i64 0, .int .i64 1])) w' := by
  have e1 : cntE h lim = 1 := by unfold cntE; rw [if_pos he]
  unfold CMade cntN
  rw [e1]
  exact ⟨rfl, hb⟩
theorem cmade_five {w w' : World} {h : List Opn} {lim : Int} (h0 : (chkL h).2 = 0) (h1 : 1 ≤ lim) (h2 : ¬ ((C h 0 : Nat) : Int) ≤ lim) (hb : Below w.heap.size w w') : CMade w h lim (.returned (.tuple #[.int .i64 0, .int .i64 5])) w' := by
  have e1 : cntE h lim = 5 := by unfold cntE; rw [if_neg (by omega), if_neg h2]
  unfold CMade cntN
  rw [e1]
  exact ⟨rfl, hb⟩
theorem cmade_ok {w w' : World} {h : List Opn} {lim : Int} (h0 : (chkL h).2 = 0) (h1 : 1 ≤ lim) (h2 : ((C h 0 : Nat) : Int) ≤ lim) (hb : Below w.heap.size w w') : CMade w h lim (.returned (.tuple #[.int .i64 ((C h 0 : Nat) : Int), .int .i64 0])) w' := by
  have e1 : cntE h lim = 0 := by unfold cntE; rw [if_neg (by omega), if_pos h2]
  unfold CMade cntN
  rw [e1]
  exact ⟨rfl, hb⟩

theorem Cw.start {w2 : World} {gs gh gl gq : Nat} {hv : Value} {h : List Opn} {lim : Int} (hs : Blk w2 gs 58 (srchA hv (mustK h h.length) (aftN h) gq 0)) (hh : Blk w2 gh 22 #[hv]) (hl : Blk w2 gl 3 #[.int .i64 lim]) :
    Cw w2 ((((w2.alloc (.cells #[.pointer (some ⟨gs, 0, none⟩)] 50)).alloc (.map #[] 0)).alloc (.cells #[.map (some (w2.heap.size + 1))] 63)).alloc (.cells #[cloV (w2.heap.size + 1 + 1) w2.heap.size gh gl (w2.heap.size + 1 + 1 + 1)] 64))
      (w2.heap.size + 1 + 1) w2.heap.size gh gl (w2.heap.size + 1 + 1 + 1) gs (w2.heap.size + 1) hv h lim 0 (fun _ => none) where
  bk := by
    have h0 := Blk.new ((w2.alloc (.cells #[.pointer (some ⟨gs, 0, none⟩)] 50)).alloc (.map #[] 0)) 63 #[.map (some (w2.heap.size + 1))]
    rw [World.size_alloc, World.size_alloc] at h0
    exact h0.alloc _
  bp := (((Blk.new w2 _ _).alloc _).alloc _).alloc _
  bh := (((hh.alloc _).alloc _).alloc _).alloc _
  bl := (((hl.alloc _).alloc _).alloc _).alloc _
  bc := by
    have h0 := Blk.new (((w2.alloc (.cells #[.pointer (some ⟨gs, 0, none⟩)] 50)).alloc (.map #[] 0)).alloc (.cells #[.map (some (w2.heap.size + 1))] 63)) 64 #[cloV (w2.heap.size + 1 + 1) w2.heap.size gh gl (w2.heap.size + 1 + 1 + 1)]
    rw [World.size_alloc, World.size_alloc, World.size_alloc] at h0
    exact h0
  bs := ⟨gq, (((hs.alloc _).alloc _).alloc _).alloc _⟩
  map := by
    have h0 := MapAt.made cntT (w2.alloc (.cells #[.pointer (some ⟨gs, 0, none⟩)] 50))
    rw [World.size_alloc] at h0
    exact (h0.on ((Below.refl _ _).alloc (Nat.le_refl _) _)).on ((Below.refl _ _).alloc (Nat.le_refl _) _)
  ne := by
    have h1 := hs.lt
    have h2 := hh.lt
    have h3 := hl.lt
    refine ⟨by omega, by omega, by omega, by omega, by omega, by omega⟩
  bm := Nat.le_succ _
  bel := ((((Below.refl _ _).alloc (Nat.le_refl _) _).alloc (by simp) _).alloc (by simp; omega) _).alloc (by simp; omega) _

set_option maxRecDepth 100000 in
set_option maxHeartbeats 8000000 in
theorem lCount_any (v : Value) (h : List Opn) (lim : Int) (W : World) (hr : ReadsO W v h) (hs : SmallH h) (hn : h.length ≤ 16) (hl63 : lim ≤ 9223372036854775807) : Calls Try.prog 18 #[v, .int .i64 lim] W (CMade W h lim) := by
  have HR := Lib.hid hr
  have HS := Lib.hid hs
  obtain ⟨xa, xn, xk, rfl⟩ := Slc.of_readsK hr
  clear hr hs
  go_enter Try.func18, Try.ntmps18
  have HB0 : Hid (Blk ((W.alloc (.cells #[.slice xa xn xk] 22)).alloc (.cells #[.int .i64 lim] 3)) W.heap.size 22 #[.slice xa xn xk] ∧ Blk ((W.alloc (.cells #[.slice xa xn xk] 22)).alloc (.cells #[.int .i64 lim] 3)) (W.heap.size + 1) 3 #[.int .i64 lim]) :=
    Lib.hid ⟨(Blk.new W _ _).alloc _, by have h0 := Blk.new (W.alloc (.cells #[.slice xa xn xk] 22)) 3 #[.int .i64 lim]; rwa [World.size_alloc] at h0⟩
  have KW0 : Hid (Below W.heap.size W ((W.alloc (.cells #[.slice xa xn xk] 22)).alloc (.cells #[.int .i64 lim] 3))) := Lib.hid (below_two W _ _)
  go_upto_region 1 with fail
  generalize hW1 : World.alloc _ _ = W1 at *
  have HZ : Hid (W1.heap.size = W.heap.size + 2) := Lib.hid (by rw [← hW1]; simp)
  clear hW1
  have q0 := HB0.out.1.cell 0
  have q0' : W1.cell? ⟨W.heap.size, 0, none⟩ = some (.slice xa xn xk) := q0
  have q1 : W1.cell? ⟨W.heap.size + 1, 0, none⟩ = some (.int .i64 lim) := HB0.out.2.cell 0
  clear q0
  have HC := Lib.hid (lcheck_any _ h W1 (HR.out.on KW0.out) HS.out hn)
  by_cases h0 : (chkL h).2 = 0
  · have H0 := Lib.hid h0
    rw [if_pos h0] at HC
    clear h0
    go_wp2_with fail
    refine HC.out.mono ?_
    rintro e w1 ⟨rfl, hb1⟩
    have KW1 := Lib.hid (KW0.out.trans (hb1.mono KW0.out.size))
    have HB1 := Lib.hid (And.intro (HB0.out.1.on hb1) (HB0.out.2.on hb1))
    have HZ1 := Lib.hid hb1.size
    have q2 : w1.cell? ⟨W.heap.size, 0, none⟩ = some (.slice xa xn xk) := HB1.out.1.cell 0
    have q3 : w1.cell? ⟨W.heap.size + 1, 0, none⟩ = some (.int .i64 lim) := HB1.out.2.cell 0
    clear hb1 HC q0' q1
    by_cases hb : lim < 1
    · have HE := Lib.hid hb
      go_wp2
      go_ret2
      exact cmade_one (.inr HE.out) KW1.out
    · have HNB := Lib.hid hb
      have HSTA := Lib.hid (start_any _ h w1 (HR.out.on KW1.out) hn)
      go_wp2_with fail
      refine HSTA.out.mono ?_
      rintro e w2 ⟨gs, gm, rfl, hgs, hgm, hne, hsr⟩
      have HSR := Lib.hid hsr
      have KW2 := Lib.hid (KW1.out.trans (hsr.2.2.mono KW1.out.size))
      have HB2 := Lib.hid (And.intro (HB1.out.1.on hsr.2.2) (HB1.out.2.on hsr.2.2))
      have q4 : w2.cell? ⟨W.heap.size, 0, none⟩ = some (.slice xa xn xk) := HB2.out.1.cell 0
      have q5 : w2.cell? ⟨W.heap.size + 1, 0, none⟩ = some (.int .i64 lim) := HB2.out.2.cell 0
      clear hsr HSTA q2 q3
      go_wp2_with (refine wpList_make_map rfl 63 rfl ?_)
      have HCW := Lib.hid (Cw.start (lim := lim) HSR.out.1 HB2.out.1 HB2.out.2)
      have HRR := Lib.hid (HR.out.on KW2.out)
      refine (count_any w2 _ _ _ _ _ gs _ (.slice xa xn xk) h lim HRR.out HS.out hn (by omega) hl63 (freeK 0 h.length + 1) 0 (fun _ => none) [] 0 _ (Nat.lt_succ_self _) (Nat.two_pow_pos _) HCW.out ⟨(fun s v hq => by cases hq), List.nodup_nil, (fun s hq => by cases hq), (fun s => by simp), Nat.le_refl _⟩).mono ?_
      rintro e w5 ⟨rfl, K', E', n', c5, _, _⟩
      have KW5 := Lib.hid (KW2.out.trans (c5.bel.mono KW2.out.size))
      have q6 : w5.cell? ⟨W.heap.size + 1, 0, none⟩ = some (.int .i64 lim) := c5.bl.cell 0
      clear c5 HCW q4 q5
      have H63 := C_small hn 0
      by_cases hle : ((C h 0 : Nat) : Int) ≤ lim
      · have HLE := Lib.hid hle
        rw [capC_le hle]
        clear hle
        have hno : ¬ lim < ((C h 0 : Nat) : Int) := by have := HLE.out; omega
        have HRES := Lib.hid (cmade_ok (w := W) (w' := w5) H0.out (show 1 ≤ lim by omega) HLE.out KW5.out)
        generalize C h 0 = c at hno HRES H63 ⊢
        go_wp2
        go_ret2
        exact HRES.out
      · have hlt : lim < lim + 1 := by omega
        have hl64 : lim < 60000000000000 := by omega
        have HRES := Lib.hid (cmade_five (w := W) (w' := w5) H0.out (show 1 ≤ lim by omega) hle KW5.out)
        rw [capC_gt hle]
        clear hle H63
        go_wp2
        go_ret2
        exact HRES.out
  · have HE := Lib.hid h0
    rw [if_neg h0] at HC
    clear h0
    go_wp2_with fail
    refine HC.out.mono ?_
    rintro e w1 ⟨rfl, hb1⟩
    have KW1 := Lib.hid (KW0.out.trans (hb1.mono KW0.out.size))
    clear hb1 HC q0' q1
    go_wp2
    go_ret2
    exact cmade_one (.inl HE.out) KW1.out
end Go.Proofs.Ytgaolgfjbgflgaa
