/-
  Chapter 39: Lacking.
-/
import Derived.Test.YtahpecbcpgjinaaCp
namespace Go.Proofs.Ytahpecbcpgjinaa
open Go.RowKit

def lackB (M R : Int) (F : List Int) (B C : List Cmd) (x : List Int) : Bool := okB M R F B C && !quorateB M R F B C x
def lackL (M R : Int) (F : List Int) (B C : List Cmd) (x : List Int) : List Int := if lackB M R F B C x = true then orFirst F (worstL R F B C x) else []
def LackMade (w : World) (M R : Int) (F : List Int) (B C : List Cmd) (x : List Int) (e : Ending) (w' : World) : Prop :=
  ∃ v, e = .returned (.tuple #[v, .bool (lackB M R F B C x)]) ∧ Reads vi w' v (lackL M R F B C x) ∧ Below w.heap.size w w'
theorem lack_no {w w' : World} {M R : Int} {F : List Int} {B C : List Cmd} {x : List Int} (h : lackB M R F B C x = false) (hb : Below w.heap.size w w') : LackMade w M R F B C x (.returned (.tuple #[.slice none 0 0, .bool false])) w' :=
  ⟨_, by rw [h], by unfold lackL; rw [if_neg (by rw [h]; simp)]; exact Reads.nil _, hb⟩

set_option maxRecDepth 100000 in
set_option maxHeartbeats 4000000 in
theorem lacking_any (g vB vC z : Value) (M R : Int) (F : List Int) (B C : List Cmd) (x : List Int) (w : World) (hg : Gen w g M R F) (hb : ReadsC w vB B) (hc : ReadsC w vC C) (hz : Reads vi w z x) :
    Calls Try.prog 28 #[g, vB, vC, z] w (LackMade w M R F B C x) := by
  have HG := Lib.hid (And.intro hg (And.intro hb (And.intro hc hz)))
  obtain ⟨vF, cl, vA, vO, rfl, hF, ⟨a2, n2, k2, rfl⟩, ⟨a3, n3, k3, rfl⟩⟩ := hg
  obtain ⟨a1, n1, k1, rfl⟩ := Slc.of_reads hF
  clear hF hb hc hz
  unfold gen at *
  have hb0 := fun (o : Obj) => (Below.refl w.heap.size w).alloc (Nat.le_refl _) o
  have HI := Lib.hid (fun (o : Obj) => interval_any _ vB vC M R F B C (w.alloc o) (HG.out.1.on (hb0 o)) (HG.out.2.1.on (hb0 o)) (HG.out.2.2.1.on (hb0 o)))
  clear hb0
  by_cases hok : okB M R F B C = true
  · have hus := (ok_parts hok).1
    obtain ⟨_, ⟨hR1, hR2⟩, hF0, _, _⟩ := usable_parts hus
    have hwe := worst_eq x hok
    have hml := @must_len M R F B C
    have hyl := @may_len M R F B C
    have HLB : Hid (lackB M R F B C x = !quorateB M R F B C x) := Lib.hid (by unfold lackB; rw [hok, Bool.true_and])
    have HK := Lib.hid (And.intro hok (And.intro hF0 hwe))
    clear hwe hus hF0
    go_enter Try.func28, Try.ntmps28
    go_wp2_with fail
    refine (HI.out _).mono ?_
    rintro e w1 ⟨u, v, rfl, r1, r2, hb1⟩
    rw [hok]
    have H1 : Hid (Blk w1 w.heap.size 25 #[.int .i64 M, .int .i64 R, .slice a1 n1 k1, .int .i64 cl, .slice a2 n2 k2, .slice a3 n3 k3] ∧ Reads vi w1 u (mustL M R F B C) ∧ Reads vi w1 v (mayL M R F B C) ∧ Below w.heap.size w w1) :=
      Lib.hid ⟨(Blk.new _ _ _).on hb1, r1, r2, ((Below.refl w.heap.size w).alloc (Nat.le_refl _) _).trans (hb1.mono (by simp))⟩
    have hs1 : w.heap.size < w1.heap.size := H1.out.1.lt
    clear r1 r2 hb1 hok
    generalize mustL M R F B C = must at *
    generalize mayL M R F B C = may at *
    have g0 := H1.out.1.cell 0
    have g1 := H1.out.1.cell 1
    have g2 := H1.out.1.cell 2
    have g3 := H1.out.1.cell 3
    have g4 := H1.out.1.cell 4
    have g5 := H1.out.1.cell 5
    go_wp2_with fail
    refine (quorate_any _ vB vC z M R F B C x _ (HG.out.1.on H1.out.2.2.2) (HG.out.2.1.on H1.out.2.2.2) (HG.out.2.2.1.on H1.out.2.2.2) (HG.out.2.2.2.keep H1.out.2.2.2)).mono ?_
    rintro e w2 ⟨rfl, hb2⟩
    have H2 : Hid (Blk w2 w.heap.size 25 #[.int .i64 M, .int .i64 R, .slice a1 n1 k1, .int .i64 cl, .slice a2 n2 k2, .slice a3 n3 k3] ∧ Reads vi w2 u must ∧ Reads vi w2 v may ∧ Below w.heap.size w w2) :=
      Lib.hid ⟨H1.out.1.on hb2, H1.out.2.1.keep hb2, H1.out.2.2.1.keep hb2, H1.out.2.2.2.trans (hb2.mono H1.out.2.2.2.size)⟩
    clear hb2
    generalize quorateB M R F B C x = q at *
    cases q
    · have HL : Hid (lackL M R F B C x = orFirst F (worstL R F B C x)) := Lib.hid (by unfold lackL; rw [if_pos (by rw [HLB.out]; rfl)])
      go_wp2
      obtain ⟨w0, hw0⟩ : ∃ w0, w0 = w2.drew := ⟨_, rfl⟩
      refine wp_region_held_drew (S := fun w' => Blk w' w.heap.size 25 #[.int .i64 M, .int .i64 R, .slice a1 n1 k1, .int .i64 cl, .slice a2 n2 k2, .slice a3 n3 k3] ∧ Below w2.heap.size w2 w') (by kernel_rfl) ⟨H2.out.1.drewN 1, below_drewN 1⟩ (fun hHeld => ?_)
      rw [← hw0] at hHeld ⊢
      clear hw0 g0 g1 g2 g3 g4 g5
      refine wpAnyH_take (i := 0) (v := (.agg #[.int .i64 M, .int .i64 R, .slice a1 n1 k1, .int .i64 cl, .slice a2 n2 k2, .slice a3 n3 k3])) rfl (by kernel_rfl) (by kernel_rfl) (by kernel_rfl) (fun _ _ _ h => h) (Or.inl ⟨by rfl, ?y0⟩) hHeld ?_
      case y0 =>
        intro wx hS
        have g0 := hS.1.cell 0
        have g1 := hS.1.cell 1
        have g2 := hS.1.cell 2
        have g3 := hS.1.cell 3
        have g4 := hS.1.cell 4
        have g5 := hS.1.cell 5
        go_simp
      simp only [List.getElem_toArray, List.getElem_cons_zero, Act.put, List.setIfInBounds_toArray, List.set_cons_zero, List.set_cons_succ]
      refine wpAnyH_take (i := 1) (v := u) rfl (by kernel_rfl) (by kernel_rfl) (by kernel_rfl) (fun _ _ _ h => h) (Or.inl ⟨by rfl, ?y1⟩) hHeld ?_
      case y1 =>
        intro wx hS
        go_simp
      simp only [List.getElem_toArray, List.getElem_cons_succ, List.getElem_cons_zero, Act.put, List.setIfInBounds_toArray, List.set_cons_zero, List.set_cons_succ]
      refine wpAnyH_take (i := 2) (v := v) rfl (by kernel_rfl) (by kernel_rfl) (by kernel_rfl) (fun _ _ _ h => h) (Or.inl ⟨by rfl, ?y2⟩) hHeld ?_
      case y2 =>
        intro wx hS
        go_simp
      simp only [List.getElem_toArray, List.getElem_cons_succ, List.getElem_cons_zero, Act.put, List.setIfInBounds_toArray, List.set_cons_zero, List.set_cons_succ]
      refine wpAnyH_take (i := 3) (v := z) rfl (by kernel_rfl) (by kernel_rfl) (by kernel_rfl) (fun _ _ _ h => h) (Or.inl ⟨by rfl, ?y3⟩) hHeld ?_
      case y3 =>
        intro wx hS
        go_simp
      simp only [List.getElem_toArray, List.getElem_cons_succ, List.getElem_cons_zero, Act.put, List.setIfInBounds_toArray, List.set_cons_zero, List.set_cons_succ]
      refine wpAnyH_ready (rs := [4]) (by kernel_rfl) (by simp) ?_
      refine AllReadyH.cons rfl (fun K hK => ?_) AllReadyH.nil
      simp only [List.getElem_toArray, List.getElem_cons_succ, List.getElem_cons_zero]
      rw [if_pos (by rfl)]
      go_simp
      refine (worst_raw u v z must may x _ (H2.out.2.1.keep hHeld.2) (H2.out.2.2.1.keep hHeld.2) ((HG.out.2.2.2.keep H2.out.2.2.2).keep hHeld.2) (by omega)).mono ?_
      rintro e w3 ⟨v3, rfl, hr3, hb3⟩
      go_simp
      refine hK.out _ _ ⟨hHeld.1.on hb3, hHeld.2.trans (hb3.mono hHeld.2.size)⟩ (fun hHeld => ?_)
      rw [HK.out.2.2] at hr3
      clear hK K
      try simp only [List.getElem_toArray, List.getElem_cons_succ, List.getElem_cons_zero, Act.put, List.setIfInBounds_toArray, List.set_cons_zero, List.set_cons_succ]
      refine wpAnyH_ready (rs := [5]) (by kernel_rfl) (by simp) ?_
      refine AllReadyH.cons rfl (fun K hK => ?_) AllReadyH.nil
      simp only [List.getElem_toArray, List.getElem_cons_succ, List.getElem_cons_zero]
      rw [if_pos (by rfl)]
      go_simp
      refine (orFirst_any _ v3 M R F _ _ ((HG.out.1.on H2.out.2.2.2).on hHeld.2) hr3 HK.out.2.1).mono ?_
      rintro e w4 ⟨v4, rfl, hr4, hb4⟩
      go_simp
      refine hK.out _ _ ⟨hHeld.1.on hb4, hHeld.2.trans (hb4.mono hHeld.2.size)⟩ (fun hHeld => ?_)
      clear hK K
      try simp only [List.getElem_toArray, List.getElem_cons_succ, List.getElem_cons_zero, Act.put, List.setIfInBounds_toArray, List.set_cons_zero, List.set_cons_succ]
      refine wpAnyH_take (i := 6) (v := v4) rfl (by kernel_rfl) (by kernel_rfl) (by kernel_rfl) (fun _ _ _ h => h) (Or.inl ⟨by rfl, ?y6⟩) hHeld ?_
      case y6 =>
        intro wx hS
        go_simp
      simp only [List.getElem_toArray, List.getElem_cons_succ, List.getElem_cons_zero, Act.put, List.setIfInBounds_toArray, List.set_cons_zero, List.set_cons_succ]
      refine wpAnyH_take (i := 7) (v := (.bool true)) rfl (by kernel_rfl) (by kernel_rfl) (by kernel_rfl) (fun _ _ _ h => h) (Or.inl ⟨by rfl, ?y7⟩) hHeld ?_
      case y7 =>
        intro wx hS
        go_simp
      simp only [List.getElem_toArray, List.getElem_cons_succ, List.getElem_cons_zero, Act.put, List.setIfInBounds_toArray, List.set_cons_zero, List.set_cons_succ]
      refine wpAnyH_done (by kernel_rfl) ?_ _
      go_wp2
      go_ret2
      exact ⟨v4, by rw [HLB.out]; rfl, by rw [HL.out]; exact hr4, H2.out.2.2.2.trans (hHeld.2.mono H2.out.2.2.2.size)⟩
    · go_wp2
      go_ret2
      exact lack_no HLB.out H2.out.2.2.2
  · have hok := Bool.eq_false_iff.2 hok
    have HE : Hid (lackB M R F B C x = false) := Lib.hid (by unfold lackB; rw [hok, Bool.false_and])
    have HOK := Lib.hid hok
    clear hok
    go_enter Try.func28, Try.ntmps28
    go_wp2_with fail
    refine (HI.out _).mono ?_
    rintro e w1 ⟨u, v, rfl, r1, r2, hb1⟩
    rw [HOK.out]
    have H1 := Lib.hid (((Below.refl w.heap.size w).alloc (Nat.le_refl _) (.cells #[.int .i64 M, .int .i64 R, .slice a1 n1 k1, .int .i64 cl, .slice a2 n2 k2, .slice a3 n3 k3] 25)).trans (hb1.mono (by simp)))
    clear r1 r2 hb1
    go_wp2
    go_ret2
    exact lack_no HE.out H1.out
end Go.Proofs.Ytahpecbcpgjinaa

