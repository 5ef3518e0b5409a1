/-
  Chapter 39: Interval of the reference.
-/
import Derived.Test.YtahpecbcpgjinaaIa
import Derived.Test.YtahpecbcpgjinaaIb
import Derived.Test.YtahpecbcpgjinaaDe
namespace Go.Proofs.Ytahpecbcpgjinaa
open Go.RowKit

def RIntMade (w : World) (M R : Int) (F : List Int) (B C : List Cmd) (e : Ending) (w' : World) : Prop :=
  ∃ v, e = .returned (.tuple #[v, .bool (okB M R F B C)]) ∧ (okB M R F B C = true → ReadsL w' v (allE R B C)) ∧ Below w.heap.size w w'
theorem rint_no {w w' : World} {M R : Int} {F : List Int} {B C : List Cmd} (h : okB M R F B C = false) (hb : Below w.heap.size w w') : RIntMade w M R F B C (.returned (.tuple #[.slice none 0 0, .bool false])) w' :=
  ⟨_, by rw [h], fun h' => (by rw [h] at h'; cases h'), hb⟩
theorem rint_yes {w w' : World} {v : Value} {M R : Int} {F : List Int} {B C : List Cmd} (h : okB M R F B C = true) (hr : ReadsL w' v (allE R B C)) (hb : Below w.heap.size w w') : RIntMade w M R F B C (.returned (.tuple #[v, .bool true])) w' :=
  ⟨_, by rw [h], fun _ => hr, hb⟩
theorem row_slc {w : World} {b s n : Nat} {t : TypeId} {v : Value} {xs : List Value} (h : w.ownsRow b t s v n xs) : ∃ a l c, v = .slice a l c := by
  rcases h.2 with ⟨h, _⟩ | ⟨_, _, _, h, _⟩ <;> exact ⟨_, _, _, h⟩
def leftMO (W : World) (L : List Cmd) : Left := .has (fun x w => ∃ w1, Below W.heap.size W w1 ∧ OwnC w1 w x L) (fun _ _ _ hb ⟨w1, h1, h2⟩ => ⟨w1, h1, h2.later hb⟩)
def leftEmp (N : Nat) : Left := .has (fun x w => ∃ g, x = .slice (some ⟨g, 0, none⟩) 0 0 ∧ N ≤ g ∧ w.heap[g]? = some (.cells #[] 52 (0, 0))) (fun _ _ _ hb ⟨g, h1, h2, h3⟩ => ⟨g, h1, h2, by rw [hb.block g (Array.getElem?_eq_some_iff.1 h3).1]; exact h3⟩)
def leftRow (N m : Nat) (cells : List Value) : Left := .has (fun x w => w.ownsRow N 52 6 x m cells) (fun _ _ _ hb h => below_row h hb)
def leftBlk (t : TypeId) (cs : Array Value) : Left := .has (fun x w => ∃ g, x = .slice (some ⟨g, 0, none⟩) 1 1 ∧ w.heap[g]? = some (.cells cs t (0, 0))) (fun _ _ _ hb ⟨g, h1, h3⟩ => ⟨g, h1, by rw [hb.block g (Array.getElem?_eq_some_iff.1 h3).1]; exact h3⟩)
def leftOne (N m : Nat) (cells : List Value) : Left := .has (fun x w => ∃ g u, x = .slice (some ⟨g, 0, none⟩) 1 1 ∧ w.heap[g]? = some (.cells #[u] 26 (0, 0)) ∧ w.ownsRow N 52 6 u m cells)
  (fun _ _ _ hb ⟨g, u, h1, h3, h4⟩ => ⟨g, u, h1, by rw [hb.block g (Array.getElem?_eq_some_iff.1 h3).1]; exact h3, below_row h4 hb⟩)
def leftL (w0 : World) (Ls : List (List Cmd)) : Left := .has (fun x w => OwnL w0 w x Ls) (fun _ _ _ hb h => h.later hb)
theorem below_grown {wr wq w' : World} {t : TypeId} {size n : Nat} {v : Value} {xs : List Value} (hb : Below wr.heap.size wr wq) (hrow : wq.ownsRow wr.heap.size t size v n xs) (hg : wq.grownBy w' v.ownBlock) : Below wr.heap.size wr w' := by
  refine ⟨hg.os.trans hb.os, hg.tape.trans hb.tape, hg.output.trans hb.output, Nat.le_trans hb.size hg.size, fun k hk => ?_⟩
  have h4 := hb.size
  rw [hg.block k (by omega) (fun e => by have := (hrow.lt k e.symm).1; omega)]
  exact hb.block k hk
theorem RowC.rebase {w0 w1 wr : World} {u : Value} {D : List Cmd} (h : RowC w0 wr u D) (hb : Below w0.heap.size w0 w1) : RowC w1 wr u D := by
  obtain ⟨cells, h1, h2⟩ := h
  refine ⟨cells, h1, fun k hk => ?_⟩
  obtain ⟨cs, a, b, c⟩ := h2 k hk
  exact ⟨cs, a, b, keepsCmd _ _ _ _ hb c⟩
theorem OwnL.first {wa : World} {u : Value} {D : List Cmd} (h : RowC wa wa u D) : OwnL wa (wa.alloc (.cells #[u] 26)) (.slice (some ⟨wa.heap.size, 0, none⟩) 1 1) [D] := by
  refine ⟨(Below.refl _ _).alloc (Nat.le_refl _) _, [u], ⟨rfl, .inr ⟨wa.heap.size, 1, #[u], rfl, Nat.le_refl _, heap_alloc_new _ _, Nat.le_refl _, by simp [maxLen], rfl, rfl⟩⟩, fun i hi => ?_⟩
  have hi0 : i = 0 := by simpa using hi
  subst hi0
  exact ⟨u, rfl, h.on ((Below.refl _ _).alloc (Nat.le_refl _) _)⟩

/-- An element of a list of commands, its six cells, in this world and each later one. -/
theorem cmd_cells {w : World} {v : Value} {L : List Cmd} (h : ReadsC w v L) {k : Nat} (hk : k < L.length) : ∃ b off cap a5 n5 k5 a6 n6 k6, v = .slice (some ⟨b, off, none⟩) L.length cap ∧ L.length ≤ cap ∧ cap ≤ maxLen ∧
    (∀ wq, Below w.heap.size w wq → wq.cell? ⟨b, off + k * 6, none⟩ = some (.int .i64 L[k].1) ∧ wq.cell? ⟨b, off + k * 6 + 1, none⟩ = some (.int .i64 L[k].2.1) ∧ wq.cell? ⟨b, off + k * 6 + 2, none⟩ = some (.int .i64 (kindC L[k])) ∧
      wq.cell? ⟨b, off + k * 6 + 3, none⟩ = some (.slice a5 n5 k5) ∧ wq.cell? ⟨b, off + k * 6 + 4, none⟩ = some (.int .i64 (repC L[k])) ∧ wq.cell? ⟨b, off + k * 6 + 5, none⟩ = some (.slice a6 n6 k6)) ∧
    CmdE w [.int .i64 L[k].1, .int .i64 L[k].2.1, .int .i64 (kindC L[k]), .slice a5 n5 k5, .int .i64 (repC L[k]), .slice a6 n6 k6] L[k] := by
  obtain ⟨b, off, c1, vw, vt, hv, hl1, hm1, hb, x0, x1, x2, x3, x4, x5, r1, r2⟩ := h.at_ hk
  obtain ⟨a5, n5, k5, rfl⟩ := Slc.of_readsK r1
  obtain ⟨a6, n6, k6, rfl⟩ := Slc.of_reads r2
  refine ⟨b, off, c1, a5, n5, k5, a6, n6, k6, hv, hl1, hm1, fun wq hq => ⟨(hq.cell (p := ⟨b, off + k * 6, none⟩) hb).trans x0, (hq.cell (p := ⟨b, off + k * 6 + 1, none⟩) hb).trans x1, (hq.cell (p := ⟨b, off + k * 6 + 2, none⟩) hb).trans x2, (hq.cell (p := ⟨b, off + k * 6 + 3, none⟩) hb).trans x3, (hq.cell (p := ⟨b, off + k * 6 + 4, none⟩) hb).trans x4, (hq.cell (p := ⟨b, off + k * 6 + 5, none⟩) hb).trans x5⟩, _, _, rfl, r1, r2⟩
theorem CmdE.at_ {w : World} {x : Cmd} {a5 a6 : Option Addr} {n5 k5 n6 k6 : Nat} (h : CmdE w [.int .i64 x.1, .int .i64 x.2.1, .int .i64 (kindC x), .slice a5 n5 k5, .int .i64 (repC x), .slice a6 n6 k6] x) :
    CmdAt w (.agg #[.int .i64 x.1, .int .i64 x.2.1, .int .i64 (kindC x), .slice a5 n5 k5, .int .i64 (repC x), .slice a6 n6 k6]) x := by
  obtain ⟨vw, vt, e, h1, h2⟩ := h
  simp only [List.cons.injEq, true_and, and_true] at e
  obtain ⟨rfl, rfl⟩ := e
  exact ⟨_, _, rfl, h1, h2⟩

theorem restL_snoc (b : List Cmd) {c : List Cmd} {k : Nat} (h : k < c.length) : restL b (c.take (k + 1)) = restL b (c.take k) ++ if c[k] ∈ b then [] else [c[k]] := by
  unfold restL
  rw [List.take_succ_eq_append_getElem h, List.filter_append]
  congr 1
  by_cases hm : c[k] ∈ b <;> simp [hm]
theorem restL_take (b c : List Cmd) (k : Nat) : (restL b (c.take k)).length ≤ (restL b c).length := ((List.take_sublist k c).filter _).length_le
theorem ok_conf {M R : Int} {F : List Int} {B C : List Cmd} (hu : usableB M R F = true) : okB M R F B C = decide (∀ x ∈ confL R B, x ∈ confL R C) := by
  unfold okB
  rw [hu, Bool.true_and, Bool.eq_iff_iff, decide_eq_true_eq, decide_eq_true_eq]
  constructor
  · intro h x hx
    obtain ⟨h1, h2⟩ := confL_mem.1 hx
    exact confL_mem.2 ⟨h x h1 h2, h2⟩
  · intro h c hc hf
    exact (confL_mem.1 (h c (confL_mem.2 ⟨hc, hf⟩))).1

set_option maxRecDepth 100000 in
set_option maxHeartbeats 8000000 in
theorem rinterval_any (g vB vC : Value) (M R : Int) (F : List Int) (B C : List Cmd) (W : World) (hg : Gen W g M R F) (hb : ReadsC W vB B) (hc : ReadsC W vC C) (hB : B.length ≤ 40) (hC : C.length ≤ 40) (h7 : (confL R C).length ≤ (confL R B).length + 7) :
    Calls Try.prog 31 #[g, vB, vC] W (RIntMade W M R F B C) := by
  obtain ⟨i0, hinf, hz0, hz1, hz2⟩ := info_parts Try.infoCmd
  obtain ⟨j0, jinf, jz0, jz1, jz2⟩ := info_parts Try.infoSl
  have HI := Lib.hid (And.intro (And.intro hinf (And.intro hz0 (And.intro hz1 hz2))) (And.intro jinf (And.intro jz0 (And.intro jz1 jz2))))
  clear hinf hz0 hz1 hz2 jinf jz0 jz1 jz2
  have HG := Lib.hid (And.intro hg (And.intro hb hc))
  obtain ⟨vF, cl, vA, vO, rfl, hF, ⟨a2, n2, k2, rfl⟩, ⟨a3, n3, k3, rfl⟩⟩ := hg
  obtain ⟨a1, n1, k1, rfl⟩ := Slc.of_reads hF
  clear hF hb hc
  unfold gen at *
  by_cases hu : usableB M R F = true
  · have HU := Lib.hid hu
    have HOK := Lib.hid (@ok_conf M R F B C hu)
    have hbl := confL_len R B
    have hcl := confL_len R C
    have HRL := Lib.hid (fun h => Nat.le_trans (Nat.le_sub_of_add_le (@restL_len (confL R B) (confL R C) (confL_nodup R B) h)) (show (confL R C).length - (confL R B).length ≤ 7 by omega))
    have HAE : Hid (allE R B C = enumL (confL R B) (restL (confL R B) (confL R C))) := Lib.hid rfl
    clear hu
    go_enter Try.func31, Try.ntmps31
    go_wp2_with fail
    refine (rusable_any _ M R F _ (HG.out.1.on ((Below.refl _ _).alloc (Nat.le_refl _) _))).mono ?_
    rintro e w2 ⟨rfl, hb⟩
    have KB := Lib.hid ((Blk.new W 25 #[.int .i64 M, .int .i64 R, .slice a1 n1 k1, .int .i64 cl, .slice a2 n2 k2, .slice a3 n3 k3]).on hb)
    have KW := Lib.hid (((Below.refl W.heap.size W).alloc (Nat.le_refl _) (.cells #[.int .i64 M, .int .i64 R, .slice a1 n1 k1, .int .i64 cl, .slice a2 n2 k2, .slice a3 n3 k3] 25)).trans (hb.mono (by simp)))
    clear hb
    obtain ⟨c0, c1, c2, c3, c4, c5, hlt⟩ := blk6 KB.out
    rw [HU.out]
    go_wp2
    refine region_left [.is (.agg #[.int .i64 M, .int .i64 R, .slice a1 n1 k1, .int .i64 cl, .slice a2 n2 k2, .slice a3 n3 k3]), .is vB, leftMO W (confL R B), .is (.agg #[.int .i64 M, .int .i64 R, .slice a1 n1 k1, .int .i64 cl, .slice a2 n2 k2, .slice a3 n3 k3]), .is vC, leftMO W (confL R C), leftMO W (confL R B), leftMO W (confL R C)] (by kernel_rfl) rfl (by kernel_rfl) (by kernel_rfl) (.cons ?q0 (.cons ?q1 (.cons ?q2 (.cons ?q3 (.cons ?q4 (.cons ?q5 (.cons ?q6 (.cons ?q7 .nil)))))))) ?qfin
    case q0 =>
      intro wq hbw st  K hK
      have KQ := KW.out.trans (hbw.mono KW.out.size)
      simp only [Act.put, List.setIfInBounds_toArray, List.set_cons_zero, List.set_cons_succ] at hK ⊢
      unfold opStep
      rw [if_pos (by rfl)]
      obtain ⟨d0, d1, d2, d3, d4, d5, dlt⟩ := blk6 (KB.out.on hbw)
      go_simp
      exact hK.out _ _ (Below.refl _ _) rfl _ rfl
    case q1 =>
      intro wq hbw st  K hK
      have KQ := KW.out.trans (hbw.mono KW.out.size)
      simp only [Act.put, List.setIfInBounds_toArray, List.set_cons_zero, List.set_cons_succ] at hK ⊢
      unfold opStep
      rw [if_pos (by rfl)]
      go_simp
      exact hK.out _ _ (Below.refl _ _) rfl _ rfl
    case q2 =>
      intro wq hbw st  K hK
      have KQ := KW.out.trans (hbw.mono KW.out.size)
      simp only [Act.put, List.setIfInBounds_toArray, List.set_cons_zero, List.set_cons_succ] at hK ⊢
      unfold opStep
      rw [if_pos (by rfl)]
      go_simp
      refine (conf_own _ _ M R F B _ (HG.out.1.on KQ) (HG.out.2.1.on KQ) (by omega)).mono ?_
      rintro e wz ⟨v, w1, rfl, hb1, hr, hbz⟩
      go_simp
      exact hK.out _ _ hbz ⟨w1, KQ.trans (hb1.mono KQ.size), hr⟩ _ rfl
    case q3 =>
      intro wq hbw st  K hK
      have KQ := KW.out.trans (hbw.mono KW.out.size)
      simp only [Act.put, List.setIfInBounds_toArray, List.set_cons_zero, List.set_cons_succ] at hK ⊢
      unfold opStep
      rw [if_pos (by rfl)]
      obtain ⟨d0, d1, d2, d3, d4, d5, dlt⟩ := blk6 (KB.out.on hbw)
      go_simp
      exact hK.out _ _ (Below.refl _ _) rfl _ rfl
    case q4 =>
      intro wq hbw st  K hK
      have KQ := KW.out.trans (hbw.mono KW.out.size)
      simp only [Act.put, List.setIfInBounds_toArray, List.set_cons_zero, List.set_cons_succ] at hK ⊢
      unfold opStep
      rw [if_pos (by rfl)]
      go_simp
      exact hK.out _ _ (Below.refl _ _) rfl _ rfl
    case q5 =>
      intro wq hbw st x2 h2 K hK
      have KQ := KW.out.trans (hbw.mono KW.out.size)
      simp only [Act.put, List.setIfInBounds_toArray, List.set_cons_zero, List.set_cons_succ] at hK ⊢
      unfold opStep
      rw [if_pos (by rfl)]
      go_simp
      refine (conf_own _ _ M R F C _ (HG.out.1.on KQ) (HG.out.2.2.on KQ) (by omega)).mono ?_
      rintro e wz ⟨v, w1, rfl, hb1, hr, hbz⟩
      go_simp
      exact hK.out _ _ hbz ⟨w1, KQ.trans (hb1.mono KQ.size), hr⟩ _ rfl
    case q6 =>
      intro wq hbw st x2 h2 x5 h5 K hK
      have KQ := KW.out.trans (hbw.mono KW.out.size)
      simp only [Act.put, List.setIfInBounds_toArray, List.set_cons_zero, List.set_cons_succ] at hK ⊢
      unfold opStep
      rw [if_pos (by rfl)]
      go_simp
      exact hK.out _ _ (Below.refl _ _) h2 _ rfl
    case q7 =>
      intro wq hbw st x2 h2 x5 h5 x6 h6 K hK
      have KQ := KW.out.trans (hbw.mono KW.out.size)
      simp only [Act.put, List.setIfInBounds_toArray, List.set_cons_zero, List.set_cons_succ] at hK ⊢
      unfold opStep
      rw [if_pos (by rfl)]
      go_simp
      exact hK.out _ _ (Below.refl _ _) h5 _ rfl
    case qfin =>
      intro wq hbw
      intro x2 h2 x5 h5 x6 h6 x7 h7
      try simp only [FinAll]
      simp only [Act.put, List.setIfInBounds_toArray, List.set_cons_zero, List.set_cons_succ]
      obtain ⟨w6, hb6, ho6⟩ : ∃ w1, Below W.heap.size W w1 ∧ OwnC w1 wq x6 (confL R B) := h6
      obtain ⟨w7, hb7, ho7⟩ : ∃ w1, Below W.heap.size W w1 ∧ OwnC w1 wq x7 (confL R C) := h7
      have HRB := Lib.hid (RowC.of_own ho6 ho6.1)
      have HRC := Lib.hid ho7.reads
      replace KW := Lib.hid (KW.out.trans (hbw.mono KW.out.size))
      clear h2 h5 hb6 hb7 ho6 ho7 hbw KB c0 c1 c2 c3 c4 c5 hlt HG
      generalize confL R B = b at *
      generalize confL R C = cc at *
      obtain ⟨aob, cb, rfl, hb1, hb2, _, _⟩ := HRB.out.reads (Below.refl _ _)
      obtain ⟨aoc, cap, rfl, hc1, hc2, _, _⟩ := HRC.out
      unfold maxLen at hb2 hc2
      go_wp2
      go_loopg [10] b.length (fun m i wr => ∃ k : Nat, m + k = b.length ∧ i = .int .i64 k ∧ (∀ j (h : j < b.length), j < k → b[j] ∈ cc) ∧ Below wq.heap.size wq wr)
      case atStart => exact ⟨0, by omega, rfl, fun j _ h => by omega, Below.refl _ _⟩
      case round =>
        obtain ⟨k, hmk, rfl, hin, hbel⟩ := hrel
        have HM := Lib.hid hmk
        have HIN := Lib.hid hin
        have HBW := Lib.hid hbel
        have hk : k ≤ b.length := by omega
        clear hmk hin hbel
        by_cases hlt : k < b.length
        · obtain ⟨bb, off, cap1, a5, n5, k5, a6, n6, k6, hv, _, _, hcell, hce⟩ := cmd_cells ((HRB.out.on HBW.out).reads HBW.out) hlt
          injection hv with e1 e2 e3
          subst e1
          have hi : (k : Int) < b.length := by omega
          obtain ⟨x0, x1, x2, x3, x4, x5⟩ := hcell wr (Below.refl _ _)
          have hinc := in_any (.slice aoc cc.length cap) _ cc b[k] wr (HRC.out.on HBW.out) hce.at_
          have hsn : b[k] ∈ cc → ∀ j (h : j < b.length), j < k + 1 → b[j] ∈ cc := fun h j hj hjk => by
            rcases Nat.lt_or_ge j k with h' | h'
            · exact HIN.out j hj h'
            · have : j = k := by omega
              subst this; exact h
          have HSN := Lib.hid hsn
          have hno : b[k] ∉ cc → ¬ ∀ x ∈ b, x ∈ cc := fun h h' => h (h' _ (List.getElem_mem _))
          have HNO := Lib.hid hno
          clear e2 e3 hcell hce hsn hno
          generalize b[k] = x at *
          by_cases hx : x ∈ cc
          · rw [decide_eq_true hx] at hinc
            have HX := Lib.hid hx
            have HC2 := Lib.hid hinc
            clear hx hinc
            go_wp2_with fail
            refine HC2.out.mono ?_
            rintro e w5 ⟨rfl, hb5⟩
            have H5 := Lib.hid (HBW.out.trans (hb5.mono HBW.out.size))
            clear hb5
            go_wp2
            go_roundg (b.length - (k + 1))
            case measure => have := HM.out; omega
            case rel => exact ⟨k + 1, by omega, by go_num, HSN.out HX.out, H5.out⟩
          · rw [decide_eq_false hx] at hinc
            have HX := Lib.hid (decide_eq_false (HNO.out hx))
            have HC2 := Lib.hid hinc
            clear hx hinc
            go_wp2_with fail
            refine HC2.out.mono ?_
            rintro e w5 ⟨rfl, hb5⟩
            have H5 := Lib.hid (HBW.out.trans (hb5.mono HBW.out.size))
            clear hb5
            go_wp2
            go_ret2
            exact rint_no (HOK.out.trans HX.out) (KW.out.trans (H5.out.mono KW.out.size))
        · have hkk : k = b.length := by omega
          subst hkk
          have hall : ∀ x ∈ b, x ∈ cc := fun x hx => by
            obtain ⟨j, hj, rfl⟩ := List.mem_iff_getElem.1 hx
            exact HIN.out j hj hj
          have HOK2 := Lib.hid (HOK.out.trans (decide_eq_true hall))
          have hr7 := HRL.out hall
          clear hall HOK HIN HM HRL
          obtain ⟨wa, hwa⟩ : ∃ wa, wa = wr := ⟨_, rfl⟩
          rw [← hwa] at HBW ⊢
          clear hwa
          have HRB2 := Lib.hid ((HRB.out.on HBW.out).rebase HBW.out)
          have HRC2 := Lib.hid (HRC.out.on HBW.out)
          have HKA := Lib.hid (KW.out.trans (HBW.out.mono KW.out.size))
          clear HRB HRC HBW KW
          go_wp2
          have HL0 := Lib.hid (OwnL.first HRB2.out)
          generalize hwb : World.alloc wa _ = wb at HL0 ⊢
          generalize hva : Value.slice (some ⟨wa.heap.size, 0, none⟩) 1 1 = va at HL0 ⊢
          have HVW := Lib.hid (And.intro hwb hva)
          clear hwb hva
          obtain ⟨G1, hG1⟩ : ∃ G, G = gk := ⟨_, rfl⟩
          subst hG1
          go_loopg [11, 12] cc.length (fun m o i wr => ∃ k : Nat, m + k = cc.length ∧ i = .int .i64 k ∧ OwnL wa wr o (enumL b (restL b (cc.take k))))
          case atStart => exact ⟨0, by omega, rfl, HL0.out⟩
          case round =>
            obtain ⟨k, hmk, rfl, hown⟩ := hrel
            have HM := Lib.hid hmk
            have HO := Lib.hid hown
            have HKR := Lib.hid (HKA.out.trans (hown.1.mono HKA.out.size))
            have hk : k ≤ cc.length := by omega
            have hlr := restL_take b cc k
            clear hmk hown
            by_cases hlt : k < cc.length
            · obtain ⟨bc, off, cap1, a5, n5, k5, a6, n6, k6, hv, _, _, hcell, hce⟩ := cmd_cells HRC2.out hlt
              injection hv with e1 e2 e3
              subst e1
              have hi : (k : Int) < cc.length := by omega
              have hk0 : (0 : Int) ≤ (k : Int) := by omega
              obtain ⟨x0, x1, x2, x3, x4, x5⟩ := hcell wr HO.out.1
              have hinc := in_any (.slice aob b.length cb) _ b cc[k] wr ((HRB2.out.on HO.out.1).reads HO.out.1) (hce.at_.on HO.out.1)
              have hstep := restL_snoc b hlt
              have HN := Lib.hid (And.intro hcell hce)
              clear e2 e3 hcell hce
              generalize cc[k] = x at *
              by_cases hx : x ∈ b
              · rw [decide_eq_true hx] at hinc
                rw [if_pos hx, List.append_nil] at hstep
                have HS := Lib.hid hstep
                have HC2 := Lib.hid hinc
                clear hx hinc hstep
                generalize restL b (cc.take k) = rest at *
                go_wp2_with fail
                refine HC2.out.mono ?_
                rintro e w5 ⟨rfl, hb5⟩
                have H5 := Lib.hid (HO.out.later hb5)
                clear hb5
                go_wp2
                go_roundg (cc.length - (k + 1))
                case measure => have := HM.out; omega
                case rel => exact ⟨k + 1, by omega, by go_num, by rw [HS.out]; exact H5.out⟩
              · rw [decide_eq_false hx] at hinc
                rw [if_neg hx] at hstep
                have HS := Lib.hid hstep
                have HC2 := Lib.hid hinc
                clear hx hinc hstep
                generalize restL b (cc.take k) = rest at *
                have HES := Lib.hid (enumL_snoc b rest x)
                have hel : (enumL b rest).length ≤ 128 := by
                  rw [enumL_len]
                  exact Nat.le_trans (Nat.pow_le_pow_right (by decide) (show rest.length ≤ 7 by omega)) (by decide)
                have HDL := Lib.hid (fun (D : List Cmd) (h : D ∈ enumL b rest) => Nat.le_trans (enumL_dlen h) (show b.length + rest.length ≤ 47 by omega))
                clear hlr
                generalize enumL b rest = E at *
                go_wp2_with fail
                refine HC2.out.mono ?_
                rintro e w5 ⟨rfl, hb5⟩
                replace HO := Lib.hid (HO.out.later hb5)
                clear hb5 x0 x1 x2 x3 x4 x5 HC2
                obtain ⟨aoE, cE, rfl, hE1, hE2, _, _⟩ := HO.out.reads
                unfold maxLen at hE2
                go_wp2
                obtain ⟨G2, hG2⟩ : ∃ G, G = gk := ⟨_, rfl⟩
                subst hG2
                go_loopg [11, 14] E.length (fun m o i wr => ∃ j : Nat, m + j = E.length ∧ i = .int .i64 j ∧ OwnL wa wr o (E ++ (E.take j).map (· ++ [x])))
                case atStart => exact ⟨0, by omega, rfl, by simpa using HO.out⟩
                case round =>
                  clear HO HKR
                  obtain ⟨j, hmj, rfl, hown⟩ := hrel
                  have HM2 := Lib.hid hmj
                  have hj : j ≤ E.length := by omega
                  have HO := Lib.hid hown
                  have HKR := Lib.hid (HKA.out.trans (hown.1.mono HKA.out.size))
                  clear hmj hown
                  by_cases hjlt : j < E.length
                  · have hLl : (E ++ (E.take j).map (· ++ [x])).length = E.length + j := by simp; omega
                    have hLj : (E ++ (E.take j).map (· ++ [x]))[j]'(by omega) = E[j] := List.getElem_append_left hjlt
                    have hLs : E ++ (E.take (j + 1)).map (· ++ [x]) = (E ++ (E.take j).map (· ++ [x])) ++ [E[j] ++ [x]] := by
                      rw [List.take_succ_eq_append_getElem hjlt, List.map_append, List.append_assoc]; rfl
                    obtain ⟨bo, co, uu, rfl, hl1, hm1, hbo, hcello, hrow⟩ := HO.out.at_ (k := j) (by omega)
                    rw [hLj] at hrow
                    have hdl := HDL.out E[j] (List.getElem_mem _)
                    generalize E[j] = D at *
                    have HLS := Lib.hid hLs
                    clear hLj hLs
                    generalize hLs0 : E ++ (E.take j).map (· ++ [x]) = Ls at *
                    have HLS0 := Lib.hid hLs0
                    clear hLs0
                    obtain ⟨cells, hcl, hcc, hcu⟩ := hrow.cells
                    have hone := hcc.one hcl
                    obtain ⟨hwao, us, hus, huu⟩ := HO.out
                    have HR := Lib.hid (And.intro hwao (And.intro hus (And.intro huu (And.intro hcl (And.intro hcc (And.intro hcu hone))))))
                    have HCE := Lib.hid hcello
                    have hLl2 : Ls.length ≤ 256 := by omega
                    have hji : (j : Int) < Ls.length := by omega
                    have hj0 : (0 : Int) ≤ (j : Int) := by omega
                    unfold maxLen at hm1
                    clear hLl
                    clear hcl hcc hcu hone hwao hus huu hrow hcello
                    have hxone : ∀ y ∈ ([.int .i64 x.1, .int .i64 x.2.1, .int .i64 (kindC x), .slice a5 n5 k5, .int .i64 (repC x), .slice a6 n6 k6] : List Value), y.oneCell' = true := cmdE_one HN.out.2
                    have HX1 := Lib.hid hxone
                    clear hxone
                    go_wp2
                    refine region_ep [.free, .on 0, .on 0, .on 0, .on 0, .on 0, .on 0, .on 0, .on 0, .on 0, .on 0, .on 0, .loud 0, .on 1, .loud 1, .on 2] [.is (.slice (some ⟨bo, 0, none⟩) Ls.length co), leftEmp wr.heap.size, .is (.slice (some ⟨bo, 0, none⟩) Ls.length co), .is (.int .i64 j), .is (.pointer (some ⟨bo, j, none⟩)), .is uu, leftRow wr.heap.size D.length cells, .is (.slice (some ⟨bc, off, none⟩) cc.length cap), .is (.int .i64 k), .is (.pointer (some ⟨bc, off + k * 6, none⟩)), .is (.agg #[.int .i64 x.1, .int .i64 x.2.1, .int .i64 (kindC x), .slice a5 n5 k5, .int .i64 (repC x), .slice a6 n6 k6]), leftBlk 52 #[.int .i64 x.1, .int .i64 x.2.1, .int .i64 (kindC x), .slice a5 n5 k5, .int .i64 (repC x), .slice a6 n6 k6], leftRow wr.heap.size (D.length + 1) (cells ++ [.int .i64 x.1, .int .i64 x.2.1, .int .i64 (kindC x), .slice a5 n5 k5, .int .i64 (repC x), .slice a6 n6 k6]), leftOne wr.heap.size (D.length + 1) (cells ++ [.int .i64 x.1, .int .i64 x.2.1, .int .i64 (kindC x), .slice a5 n5 k5, .int .i64 (repC x), .slice a6 n6 k6]), leftL wa (Ls ++ [D ++ [x]]), leftL wa (Ls ++ [D ++ [x]])] 2 (fun c w => match c with | 0 => Below wr.heap.size wr w | 1 => Below wr.heap.size wr w | _ => True) (by kernel_rfl) (by kernel_rfl) (by kernel_rfl) (by kernel_rfl) ?pg0 ?pgs (.cons ?p0 (.cons ?p1 (.cons ?p2 (.cons ?p3 (.cons ?p4 (.cons ?p5 (.cons ?p6 (.cons ?p7 (.cons ?p8 (.cons ?p9 (.cons ?p10 (.cons ?p11 (.cons ?p12 (.cons ?p13 (.cons ?p14 (.cons ?p15 .nil)))))))))))))))) ?pfin
                    case pg0 => exact Below.refl _ _
                    case pgs => 
                      intro c w w' h hb
                      match c, h with
                      | 0, h => exact Below.trans h (hb.mono (Below.size h))
                      | 1, h => exact Below.trans h (hb.mono (Below.size h))
                      | _ + 2, _ => trivial
                    case p0 =>
                      intro wq hbw st  K hK
                      simp only [Act.put, List.setIfInBounds_toArray, List.set_cons_zero, List.set_cons_succ] at hK ⊢
                      unfold opStep
                      rw [if_pos (by rfl)]
                      go_simp
                      exact hK.out _ _ (Below.refl _ _) rfl _ rfl
                    case p1 =>
                      intro wq hbw st  K hK
                      have hbw : Below wr.heap.size wr wq := hbw
                      simp only [Act.put, List.setIfInBounds_toArray, List.set_cons_zero, List.set_cons_succ] at hK ⊢
                      unfold opStep
                      rw [if_pos (by rfl)]
                      go_simp
                      exact hK.out _ _ ((Below.refl _ _).alloc (Nat.le_refl _) _) ⟨_, rfl, hbw.size, heap_alloc_new _ _⟩ _ rfl
                    case p2 =>
                      intro wq hbw st  K hK
                      have hbw : Below wr.heap.size wr wq := hbw
                      simp only [Act.put, List.setIfInBounds_toArray, List.set_cons_zero, List.set_cons_succ] at hK ⊢
                      unfold opStep
                      rw [if_pos (by rfl)]
                      go_simp
                      exact hK.out _ _ (Below.refl _ _) rfl _ rfl
                    case p3 =>
                      intro wq hbw st  K hK
                      have hbw : Below wr.heap.size wr wq := hbw
                      simp only [Act.put, List.setIfInBounds_toArray, List.set_cons_zero, List.set_cons_succ] at hK ⊢
                      unfold opStep
                      rw [if_pos (by rfl)]
                      go_simp
                      exact hK.out _ _ (Below.refl _ _) rfl _ rfl
                    case p4 =>
                      intro wq hbw st  K hK
                      have hbw : Below wr.heap.size wr wq := hbw
                      simp only [Act.put, List.setIfInBounds_toArray, List.set_cons_zero, List.set_cons_succ] at hK ⊢
                      unfold opStep
                      rw [if_pos (by rfl)]
                      go_simp
                      exact hK.out _ _ (Below.refl _ _) rfl _ rfl
                    case p5 =>
                      intro wq hbw st  K hK
                      have hbw : Below wr.heap.size wr wq := hbw
                      simp only [Act.put, List.setIfInBounds_toArray, List.set_cons_zero, List.set_cons_succ] at hK ⊢
                      unfold opStep
                      rw [if_pos (by rfl)]
                      have q0 := (hbw.cell (p := ⟨bo, j, none⟩) hbo).trans HCE.out
                      go_simp
                      exact hK.out _ _ (Below.refl _ _) rfl _ rfl
                    case p6 =>
                      intro wq hbw st x1 h1 K hK
                      have hbw : Below wr.heap.size wr wq := hbw
                      simp only [Act.put, List.setIfInBounds_toArray, List.set_cons_zero, List.set_cons_succ] at hK ⊢
                      unfold opStep
                      rw [if_pos (by rfl)]
                      obtain ⟨g1, rfl, hN1, hg1⟩ : ∃ g, x1 = .slice (some ⟨g, 0, none⟩) 0 0 ∧ wr.heap.size ≤ g ∧ wq.heap[g]? = some (.cells #[] 52 (0, 0)) := h1
                      refine wp_append_copy (w0 := wa) (.tmp 59) (.tmp 63) rfl wr.heap.size g1 D.length uu cells rfl rfl hg1 hN1 HR.out.2.2.2.1 HR.out.2.2.2.2.2.2 (by omega) ?_ ?_
                      · rcases HR.out.2.2.2.2.2.1 with h | ⟨g, cp, h1, h2, h3⟩
                        · exact .inl h
                        · exact .inr ⟨g, cp, h1, fun i y hy => (hbw.cell (p := ⟨g, i, none⟩) h2).trans (h3 i y hy)⟩
                      · intro v6 w6 h6 hb6
                        exact hK.out _ _ hb6 h6 _ rfl
                    case p7 =>
                      intro wq hbw st  K hK
                      have hbw : Below wr.heap.size wr wq := hbw
                      simp only [Act.put, List.setIfInBounds_toArray, List.set_cons_zero, List.set_cons_succ] at hK ⊢
                      unfold opStep
                      rw [if_pos (by rfl)]
                      go_simp
                      exact hK.out _ _ (Below.refl _ _) rfl _ rfl
                    case p8 =>
                      intro wq hbw st  K hK
                      have hbw : Below wr.heap.size wr wq := hbw
                      simp only [Act.put, List.setIfInBounds_toArray, List.set_cons_zero, List.set_cons_succ] at hK ⊢
                      unfold opStep
                      rw [if_pos (by rfl)]
                      go_simp
                      exact hK.out _ _ (Below.refl _ _) rfl _ rfl
                    case p9 =>
                      intro wq hbw st  K hK
                      have hbw : Below wr.heap.size wr wq := hbw
                      simp only [Act.put, List.setIfInBounds_toArray, List.set_cons_zero, List.set_cons_succ] at hK ⊢
                      unfold opStep
                      rw [if_pos (by rfl)]
                      go_simp
                      exact hK.out _ _ (Below.refl _ _) rfl _ rfl
                    case p10 =>
                      intro wq hbw st  K hK
                      have hbw : Below wr.heap.size wr wq := hbw
                      simp only [Act.put, List.setIfInBounds_toArray, List.set_cons_zero, List.set_cons_succ] at hK ⊢
                      unfold opStep
                      rw [if_pos (by rfl)]
                      obtain ⟨x0, x1, x2, x3, x4, x5⟩ := HN.out.1 wq (HR.out.1.trans (hbw.mono HR.out.1.size))
                      go_simp
                      exact hK.out _ _ (Below.refl _ _) rfl _ rfl
                    case p11 =>
                      intro wq hbw st  K hK
                      have hbw : Below wr.heap.size wr wq := hbw
                      simp only [Act.put, List.setIfInBounds_toArray, List.set_cons_zero, List.set_cons_succ] at hK ⊢
                      unfold opStep
                      rw [if_pos (by rfl)]
                      go_simp
                      exact hK.out _ _ ((Below.refl _ _).alloc (Nat.le_refl _) _) ⟨_, rfl, heap_alloc_new _ _⟩ _ rfl
                    case p12 =>
                      intro wq hbw st x6 h6 x11 h11 K hK
                      have hbw : Below wr.heap.size wr wq := hbw
                      simp only [Act.put, List.setIfInBounds_toArray, List.set_cons_zero, List.set_cons_succ] at hK ⊢
                      unfold opStep
                      rw [if_pos (by rfl)]
                      obtain ⟨g11, rfl, hg11⟩ : ∃ g, x11 = .slice (some ⟨g, 0, none⟩) 1 1 ∧ wq.heap[g]? = some (.cells #[.int .i64 x.1, .int .i64 x.2.1, .int .i64 (kindC x), .slice a5 n5 k5, .int .i64 (repC x), .slice a6 n6 k6] 52 (0, 0)) := h11
                      have h6 : wq.ownsRow wr.heap.size 52 6 x6 D.length cells := h6
                      refine wp_append_own wq (.tmp 64) (.tmp 69) 26 rfl wr.heap.size 52 i0 _ 6 80 Try.underlying26 HI.out.1.1 HI.out.1.2.1 HI.out.1.2.2.1 HI.out.1.2.2.2 rfl (by decide) x6 D.length cells rfl h6 ⟨g11, 0, none⟩ 1 1 [.int .i64 x.1, .int .i64 x.2.1, .int .i64 (kindC x), .slice a5 n5 k5, .int .i64 (repC x), .slice a6 n6 k6] rfl rfl ?_ HX1.out (by unfold maxLen; omega) (by omega) hbw.size ?_
                      · intro i y hy
                        have hg11c := cell_of_row wq g11 i #[.int .i64 x.1, .int .i64 x.2.1, .int .i64 (kindC x), .slice a5 n5 k5, .int .i64 (repC x), .slice a6 n6 k6] _ (0, 0) hg11
                        have : wq.cell? ⟨g11, i, none⟩ = some y := hg11c.trans (by simpa using hy)
                        by_cases h0 : i = 0 <;> simp_all [Addr.add]
                      · intro v12 w12 h12 hg12 _
                        exact hK.out _ _ (below_grown hbw h6 hg12) h12 _ rfl
                    case p13 =>
                      intro wq hbw st x12 h12 K hK
                      have hbw : Below wr.heap.size wr wq := hbw
                      simp only [Act.put, List.setIfInBounds_toArray, List.set_cons_zero, List.set_cons_succ] at hK ⊢
                      unfold opStep
                      rw [if_pos (by rfl)]
                      have h12 : wq.ownsRow wr.heap.size 52 6 x12 (D.length + 1) (cells ++ [.int .i64 x.1, .int .i64 x.2.1, .int .i64 (kindC x), .slice a5 n5 k5, .int .i64 (repC x), .slice a6 n6 k6]) := h12
                      obtain ⟨a12, n12, k12, rfl⟩ := row_slc h12
                      go_simp
                      exact hK.out _ _ ((Below.refl _ _).alloc (Nat.le_refl _) _) ⟨_, _, rfl, heap_alloc_new _ _, World.ownsRow.alloc h12 _⟩ _ rfl
                    case p14 =>
                      intro wq hbw st x12 h12 x13 h13 K hK
                      have hbw : Below wr.heap.size wr wq := hbw
                      simp only [Act.put, List.setIfInBounds_toArray, List.set_cons_zero, List.set_cons_succ] at hK ⊢
                      unfold opStep
                      rw [if_pos (by rfl)]
                      obtain ⟨g13, u13, rfl, hg13, hu13⟩ : ∃ g u, x13 = .slice (some ⟨g, 0, none⟩) 1 1 ∧ wq.heap[g]? = some (.cells #[u] 26 (0, 0)) ∧ wq.ownsRow wr.heap.size 52 6 u (D.length + 1) (cells ++ [.int .i64 x.1, .int .i64 x.2.1, .int .i64 (kindC x), .slice a5 n5 k5, .int .i64 (repC x), .slice a6 n6 k6]) := h13
                      have hrw := below_row HR.out.2.1 hbw
                      refine wp_append_own wq (.tmp 58) (.tmp 71) 38 rfl wa.heap.size 26 j0 _ 1 24 Try.underlying38 HI.out.2.1 HI.out.2.2.1 HI.out.2.2.2.1 HI.out.2.2.2.2 rfl (by decide) (.slice (some ⟨bo, 0, none⟩) Ls.length co) Ls.length us rfl hrw ⟨g13, 0, none⟩ 1 1 [u13] rfl rfl ?_ ?_ (by unfold maxLen; omega) (by omega) (Nat.le_trans HR.out.1.size hbw.size) ?_
                      · intro i y hy
                        have hi0 : i = 0 := by have := (List.getElem?_eq_some_iff.1 hy).1; simp at this; omega
                        subst hi0
                        have : wq.cell? ⟨g13, 0, none⟩ = some y := (cell_of_row wq g13 0 #[u13] _ (0, 0) hg13).trans (by simpa using hy)
                        simpa [Addr.add] using this
                      · intro y hy
                        obtain rfl : y = u13 := by simpa using hy
                        rcases hu13.2 with ⟨h, _⟩ | ⟨_, _, _, h, _⟩ <;> subst h <;> rfl
                      · intro v14 w14 h14 hg14 _
                        exact hK.out _ _ trivial (OwnL.snoc (HR.out.1.trans (hbw.mono HR.out.1.size)) hrw (fun i hi => by obtain ⟨z, hz, hrz⟩ := HR.out.2.2.1 i hi; exact ⟨z, hz, hrz.on hbw⟩) ⟨_, ownsRow_base (by rw [List.length_append]; exact hu13) (Nat.zero_le _), HR.out.2.2.2.2.1.snoc HR.out.2.2.2.1 rfl HN.out.2⟩ h14 hg14) _ rfl
                    case p15 =>
                      intro wq hbw st x1 h1 x6 h6 x11 h11 x12 h12 x13 h13 x14 h14 K hK
                      simp only [Act.put, List.setIfInBounds_toArray, List.set_cons_zero, List.set_cons_succ] at hK ⊢
                      unfold opStep
                      rw [if_pos (by rfl)]
                      go_simp
                      exact hK.out _ _ (Below.refl _ _) h14 _ rfl
                    case pfin =>
                      intro wq hbw
                      intro x1 h1 x6 h6 x11 h11 x12 h12 x13 h13 x14 h14 x15 h15
                      try simp only [FinAll]
                      simp only [Act.put, List.setIfInBounds_toArray, List.set_cons_zero, List.set_cons_succ]
                      have H15 : Hid (OwnL wa wq x15 (Ls ++ [D ++ [x]])) := Lib.hid h15
                      clear h1 h6 h11 h12 h13 h14 h15 hbw
                      go_wp2
                      go_roundg (E.length - (j + 1))
                      case measure => have := HM2.out; omega
                      case rel => exact ⟨j + 1, by omega, by go_num, by rw [HLS.out]; exact H15.out⟩
                  · have hjj : j = E.length := by omega
                    subst hjj
                    have H5 : Hid (OwnL wa wr u11 (enumL b (rest ++ [x]))) := Lib.hid (by have h := HO.out; rw [List.take_length] at h; rw [HES.out]; exact h)
                    clear HO
                    go_wp2
                    go_roundg (cc.length - (k + 1))
                    case measure => have := HM.out; omega
                    case rel => exact ⟨k + 1, by omega, by go_num, by rw [HS.out]; exact H5.out⟩
            · have HF2 : Hid (ReadsL wr u11 (allE R B C)) := Lib.hid (by have h := HO.out; rw [List.take_of_length_le (show cc.length ≤ k by omega)] at h; rw [HAE.out]; exact h.reads)
              go_wp2
              go_ret2
              exact rint_yes HOK2.out HF2.out HKR.out
  · have HU := Lib.hid (Bool.eq_false_iff.2 hu)
    have HOK : Hid (okB M R F B C = false) := Lib.hid (by unfold okB; rw [Bool.eq_false_iff.2 hu]; rfl)
    clear hu
    go_enter Try.func31, Try.ntmps31
    go_wp2_with fail
    refine (rusable_any _ M R F _ (HG.out.1.on ((Below.refl _ _).alloc (Nat.le_refl _) _))).mono ?_
    rintro e w2 ⟨rfl, hb⟩
    have KB := Lib.hid ((Blk.new W 25 #[.int .i64 M, .int .i64 R, .slice a1 n1 k1, .int .i64 cl, .slice a2 n2 k2, .slice a3 n3 k3]).on hb)
    have KW := Lib.hid (((Below.refl W.heap.size W).alloc (Nat.le_refl _) (.cells #[.int .i64 M, .int .i64 R, .slice a1 n1 k1, .int .i64 cl, .slice a2 n2 k2, .slice a3 n3 k3] 25)).trans (hb.mono (by simp)))
    clear hb
    obtain ⟨c0, c1, c2, c3, c4, c5, hlt⟩ := blk6 KB.out
    rw [HU.out]
    go_wp2
    go_ret2
    exact rint_no HOK.out KW.out
end Go.Proofs.Ytahpecbcpgjinaa
