/-
  Chapter 39: Must, May, Quorate.
-/
import Derived.Test.YtahpecbcpgjinaaCn
namespace Go.Proofs.Ytahpecbcpgjinaa
open Go.RowKit

theorem nodup_reps (R : Int) (p : Int → Bool) : ((reps R).filter p).Nodup := ((reps_sorted R).filter p).imp fun h => by omega
theorem must_len {M R : Int} {F : List Int} {B C : List Cmd} : (mustL M R F B C).length ≤ R.toNat := by
  unfold mustL
  split
  · exact Nat.le_trans (List.length_filter_le _ _) (by rw [reps_len]; omega)
  · simp
theorem may_len {M R : Int} {F : List Int} {B C : List Cmd} : (mayL M R F B C).length ≤ R.toNat := by
  unfold mayL
  split
  · exact Nat.le_trans (List.length_filter_le _ _) (by rw [reps_len]; omega)
  · simp
theorem worst_eq {M R : Int} {F : List Int} {B C : List Cmd} (x : List Int) (hok : okB M R F B C = true) : sortI (mustL M R F B C ++ outside (mayL M R F B C) x) = worstL R F B C x := by
  unfold mustL mayL worstL
  rw [if_pos hok, if_pos hok]
  refine sortI_eq ?_ ((reps_sorted R).filter _) fun r => ?_
  · rw [List.nodup_append]
    refine ⟨nodup_reps _ _, (nodup_reps _ _).filter _, fun a ha b hb e => ?_⟩
    subst e
    unfold outside at hb
    simp only [List.mem_filter] at ha hb
    rw [may_must ha.2] at hb
    simp at hb
  · unfold outside worstP
    simp only [List.mem_append, List.mem_filter, Bool.or_eq_true, Bool.and_eq_true]
    constructor
    · rintro (⟨a, b⟩ | ⟨⟨a, b⟩, c⟩)
      · exact ⟨a, .inl b⟩
      · exact ⟨a, .inr ⟨b, c⟩⟩
    · rintro ⟨a, b | ⟨b, c⟩⟩
      · exact .inl ⟨a, b⟩
      · exact .inr ⟨⟨a, b⟩, c⟩

theorem must_any (g vB vC : Value) (M R : Int) (F : List Int) (B C : List Cmd) (w : World) (hg : Gen w g M R F) (hb : ReadsC w vB B) (hc : ReadsC w vC C) :
    Calls Try.prog 19 #[g, vB, vC] w (MadeI w (mustL M R F B C)) := by
  have HG := Lib.hid (And.intro hg (And.intro hb hc))
  obtain ⟨vF, cl, vA, vO, rfl, hF, ⟨a2, n2, k2, rfl⟩, ⟨a3, n3, k3, rfl⟩⟩ := hg
  obtain ⟨a1, n1, k1, rfl⟩ := Slc.of_reads hF
  clear hF hb hc
  unfold gen at *
  have hb0 := fun (o : Obj) => (Below.refl w.heap.size w).alloc (Nat.le_refl _) o
  have HI := Lib.hid (fun (o : Obj) => interval_any _ vB vC M R F B C (w.alloc o) (HG.out.1.on (hb0 o)) (HG.out.2.1.on (hb0 o)) (HG.out.2.2.on (hb0 o)))
  clear hb0
  go_enter Try.func19, Try.ntmps19
  go_wp2_with fail
  refine (HI.out _).mono ?_
  rintro e w1 ⟨u, v, rfl, r1, r2, hb1⟩
  have H1 := Lib.hid (And.intro r1 (((Below.refl w.heap.size w).alloc (Nat.le_refl _) (.cells #[.int .i64 M, .int .i64 R, .slice a1 n1 k1, .int .i64 cl, .slice a2 n2 k2, .slice a3 n3 k3] 25)).trans (hb1.mono (by simp))))
  clear r1 r2 hb1
  go_wp2
  go_ret
  exact ⟨_, rfl, H1.out.1, H1.out.2⟩

theorem may_any (g vB vC : Value) (M R : Int) (F : List Int) (B C : List Cmd) (w : World) (hg : Gen w g M R F) (hb : ReadsC w vB B) (hc : ReadsC w vC C) :
    Calls Try.prog 21 #[g, vB, vC] w (MadeI w (mayL M R F B C)) := by
  have HG := Lib.hid (And.intro hg (And.intro hb hc))
  obtain ⟨vF, cl, vA, vO, rfl, hF, ⟨a2, n2, k2, rfl⟩, ⟨a3, n3, k3, rfl⟩⟩ := hg
  obtain ⟨a1, n1, k1, rfl⟩ := Slc.of_reads hF
  clear hF hb hc
  unfold gen at *
  have hb0 := fun (o : Obj) => (Below.refl w.heap.size w).alloc (Nat.le_refl _) o
  have HI := Lib.hid (fun (o : Obj) => interval_any _ vB vC M R F B C (w.alloc o) (HG.out.1.on (hb0 o)) (HG.out.2.1.on (hb0 o)) (HG.out.2.2.on (hb0 o)))
  clear hb0
  go_enter Try.func21, Try.ntmps21
  go_wp2_with fail
  refine (HI.out _).mono ?_
  rintro e w1 ⟨u, v, rfl, r1, r2, hb1⟩
  have H1 := Lib.hid (And.intro r2 (((Below.refl w.heap.size w).alloc (Nat.le_refl _) (.cells #[.int .i64 M, .int .i64 R, .slice a1 n1 k1, .int .i64 cl, .slice a2 n2 k2, .slice a3 n3 k3] 25)).trans (hb1.mono (by simp))))
  clear r1 r2 hb1
  go_wp2
  go_ret
  exact ⟨_, rfl, H1.out.1, H1.out.2⟩

theorem first_cell {w : World} {v : Value} {F : List Int} (hr : Reads vi w v F) (hF : F ≠ []) : ∃ b off cap, v = .slice (some ⟨b, off, none⟩) F.length cap ∧ F.length ≤ cap ∧ cap ≤ maxLen ∧ b < w.heap.size ∧ w.cell? ⟨b, off, none⟩ = some (.int .i64 (F.headD 0)) := by
  obtain ⟨ao, cap, rfl, hl, hm, hn, hx⟩ := hr
  obtain ⟨b, off, rfl, hb, hc⟩ := hx hF
  refine ⟨b, off, cap, rfl, hl, hm, hb, ?_⟩
  cases F with
  | nil => exact absurd rfl hF
  | cons a F => exact hc 0 (by simp)

/-- The genesis in its block, and what has come behind a world. -/
theorem gens_on {w0 w w' : World} {gb : Nat} {v0 v1 v2 v3 v4 v5 : Value}
    (h : w.cell? ⟨gb, 0, none⟩ = some v0 ∧ w.cell? ⟨gb, 1, none⟩ = some v1 ∧ w.cell? ⟨gb, 2, none⟩ = some v2 ∧ w.cell? ⟨gb, 3, none⟩ = some v3 ∧ w.cell? ⟨gb, 4, none⟩ = some v4 ∧ w.cell? ⟨gb, 5, none⟩ = some v5 ∧ Below w0.heap.size w0 w)
    (hlt : gb < w0.heap.size) (hb : Below w.heap.size w w') :
    w'.cell? ⟨gb, 0, none⟩ = some v0 ∧ w'.cell? ⟨gb, 1, none⟩ = some v1 ∧ w'.cell? ⟨gb, 2, none⟩ = some v2 ∧ w'.cell? ⟨gb, 3, none⟩ = some v3 ∧ w'.cell? ⟨gb, 4, none⟩ = some v4 ∧ w'.cell? ⟨gb, 5, none⟩ = some v5 ∧ Below w0.heap.size w0 w' := by
  obtain ⟨h0, h1, h2, h3, h4, h5, h6⟩ := h
  have hl : gb < w.heap.size := Nat.lt_of_lt_of_le hlt h6.size
  exact ⟨(hb.cell hl).trans h0, (hb.cell hl).trans h1, (hb.cell hl).trans h2, (hb.cell hl).trans h3, (hb.cell hl).trans h4, (hb.cell hl).trans h5, h6.trans (hb.mono h6.size)⟩

set_option maxRecDepth 100000 in
set_option maxHeartbeats 4000000 in
theorem quorate_any (g vB vC z : Value) (M R : Int) (F : List Int) (B C : List Cmd) (x : List Int) (w : World) (hg : Gen w g M R F) (hb : ReadsC w vB B) (hc : ReadsC w vC C) (hz : Reads vi w z x) :
    Calls Try.prog 24 #[g, vB, vC, z] w (BoolMade w (quorateB M R F B C x)) := by
  have HG := Lib.hid (And.intro hg (And.intro hb (And.intro hc hz)))
  obtain ⟨vF, cl, vA, vO, rfl, hF, ⟨a2, n2, k2, rfl⟩, ⟨a3, n3, k3, rfl⟩⟩ := hg
  have HF := Lib.hid hF
  obtain ⟨a1, n1, k1, rfl⟩ := Slc.of_reads hF
  clear hF hb hc hz
  unfold gen at *
  have hb0 := fun (o : Obj) => (Below.refl w.heap.size w).alloc (Nat.le_refl _) o
  have HI := Lib.hid (fun (o : Obj) => interval_any _ vB vC M R F B C (w.alloc o) (HG.out.1.on (hb0 o)) (HG.out.2.1.on (hb0 o)) (HG.out.2.2.1.on (hb0 o)))
  clear hb0
  by_cases hok : okB M R F B C = true
  · have hus := (ok_parts hok).1
    obtain ⟨_, ⟨hR1, hR2⟩, hF0, _, _⟩ := usable_parts hus
    have hwe := worst_eq x hok
    have hml := @must_len M R F B C
    have hyl := @may_len M R F B C
    have hqq : quorateB M R F B C x = ((!decide (mustL M R F B C = []) || decide (F.headD 0 ∈ x)) && isQ M (orFirst F (worstL R F B C x)) x) := by unfold quorateB; rw [hok, Bool.true_and]
    have HK := Lib.hid (And.intro hok (And.intro hF0 (And.intro hwe hqq)))
    clear hwe hqq hus hF0
    go_enter Try.func24, Try.ntmps24
    go_wp2_with fail
    refine (HI.out _).mono ?_
    rintro e w1 ⟨u, v, rfl, r1, r2, hb1⟩
    rw [hok]
    have H1 : Hid (Reads vi w1 u (mustL M R F B C) ∧ Reads vi w1 v (mayL M R F B C) ∧ Blk w1 w.heap.size 25 #[.int .i64 M, .int .i64 R, .slice a1 n1 k1, .int .i64 cl, .slice a2 n2 k2, .slice a3 n3 k3] ∧ Below w.heap.size w w1) :=
      Lib.hid ⟨r1, r2, (Blk.new _ _ _).on hb1, ((Below.refl w.heap.size w).alloc (Nat.le_refl _) _).trans (hb1.mono (by simp))⟩
    have hs1 : w.heap.size < w1.heap.size := H1.out.2.2.1.lt
    clear r2 hb1 hok
    obtain ⟨ao, cap, rfl, hl, hm, _, _⟩ := r1
    unfold maxLen at hm
    generalize hmu : mustL M R F B C = must at *
    generalize hma : mayL M R F B C = may at *
    obtain ⟨bF, oF, cF, heF, hlF, hmF, hbF, hcF⟩ := first_cell (HF.out.keep H1.out.2.2.2) HK.out.2.1
    injection heF with e1 e2 e3
    subst e1 e2 e3
    unfold maxLen at hmF
    have hF1 : 0 < F.length := List.length_pos_iff.2 HK.out.2.1
    have g0 := H1.out.2.2.1.cell 0
    have g1 := H1.out.2.2.1.cell 1
    have g2 := H1.out.2.2.1.cell 2
    have g3 := H1.out.2.2.1.cell 3
    have g4 := H1.out.2.2.1.cell 4
    have g5 := H1.out.2.2.1.cell 5
    have hco := contains_any z x (F.headD 0) w1 (HG.out.2.2.2.keep H1.out.2.2.2)
    generalize F.headD 0 = f at *
    have HC := Lib.hid hco
    clear hco hmu hma
    have HB1 := Lib.hid H1.out.2.2.2
    by_cases hm0 : must = []
    · have hl0 : must.length = 0 := by rw [hm0]; rfl
      by_cases hf : f ∈ x
      · have HE : Hid (quorateB M R F B C x = isQ M (orFirst F (worstL R F B C x)) x) := Lib.hid (by rw [HK.out.2.2.2, decide_eq_true hm0, decide_eq_true hf]; rfl)
        rw [decide_eq_true hf] at HC
        have h0 : ((must.length : Int) == 0) = true := beq_t (by omega)
        clear hm0 hl0 hf
        go_wp2_with (refine HC.out.mono ?_; rintro e w4 ⟨rfl, rfl⟩)
        obtain ⟨w0, hw0⟩ : ∃ w0, w0 = w1.drew := ⟨_, rfl⟩
        refine wp_region_held_drew (S := fun w' => Blk w' w.heap.size 25 #[.int .i64 M, .int .i64 R, .slice (some ⟨bF, oF, none⟩) F.length k1, .int .i64 cl, .slice a2 n2 k2, .slice a3 n3 k3] ∧ Below w1.heap.size w1 w') (by kernel_rfl) ⟨H1.out.2.2.1.drewN 1, below_drewN 1⟩ (fun hHeld => ?_)
        rw [← hw0] at hHeld ⊢
        clear hw0 g0 g1 g2 g3 g4 g5
        refine wpAnyH_take (i := 0) (v := (.pointer (some ⟨w.heap.size, 0, none⟩))) rfl (by kernel_rfl) (by kernel_rfl) (by kernel_rfl) (fun _ _ _ h => h) (Or.inl ⟨by rfl, ?y0⟩) hHeld ?_
        case y0 =>
          intro wx hS
          go_simp
        simp only [List.getElem_toArray, List.getElem_cons_zero, Act.put, List.setIfInBounds_toArray, List.set_cons_zero, List.set_cons_succ]
        refine wpAnyH_take (i := 1) (v := (.int .i64 M)) rfl (by kernel_rfl) (by kernel_rfl) (by kernel_rfl) (fun _ _ _ h => h) (Or.inl ⟨by rfl, ?y1⟩) hHeld ?_
        case y1 =>
          intro wx hS
          have g0 := hS.1.cell 0
          go_simp
        simp only [List.getElem_toArray, List.getElem_cons_succ, List.getElem_cons_zero, Act.put, List.setIfInBounds_toArray, List.set_cons_zero, List.set_cons_succ]
        refine wpAnyH_take (i := 2) (v := (.agg #[.int .i64 M, .int .i64 R, .slice (some ⟨bF, oF, none⟩) F.length k1, .int .i64 cl, .slice a2 n2 k2, .slice a3 n3 k3])) rfl (by kernel_rfl) (by kernel_rfl) (by kernel_rfl) (fun _ _ _ h => h) (Or.inl ⟨by rfl, ?y2⟩) hHeld ?_
        case y2 =>
          intro wx hS
          have g0 := hS.1.cell 0
          have g1 := hS.1.cell 1
          have g2 := hS.1.cell 2
          have g3 := hS.1.cell 3
          have g4 := hS.1.cell 4
          have g5 := hS.1.cell 5
          go_simp
        simp only [List.getElem_toArray, List.getElem_cons_succ, List.getElem_cons_zero, Act.put, List.setIfInBounds_toArray, List.set_cons_zero, List.set_cons_succ]
        refine wpAnyH_take (i := 3) (v := (.slice ao must.length cap)) rfl (by kernel_rfl) (by kernel_rfl) (by kernel_rfl) (fun _ _ _ h => h) (Or.inl ⟨by rfl, ?y3⟩) hHeld ?_
        case y3 =>
          intro wx hS
          go_simp
        simp only [List.getElem_toArray, List.getElem_cons_succ, List.getElem_cons_zero, Act.put, List.setIfInBounds_toArray, List.set_cons_zero, List.set_cons_succ]
        refine wpAnyH_take (i := 4) (v := v) rfl (by kernel_rfl) (by kernel_rfl) (by kernel_rfl) (fun _ _ _ h => h) (Or.inl ⟨by rfl, ?y4⟩) hHeld ?_
        case y4 =>
          intro wx hS
          go_simp
        simp only [List.getElem_toArray, List.getElem_cons_succ, List.getElem_cons_zero, Act.put, List.setIfInBounds_toArray, List.set_cons_zero, List.set_cons_succ]
        refine wpAnyH_take (i := 5) (v := z) rfl (by kernel_rfl) (by kernel_rfl) (by kernel_rfl) (fun _ _ _ h => h) (Or.inl ⟨by rfl, ?y5⟩) hHeld ?_
        case y5 =>
          intro wx hS
          go_simp
        simp only [List.getElem_toArray, List.getElem_cons_succ, List.getElem_cons_zero, Act.put, List.setIfInBounds_toArray, List.set_cons_zero, List.set_cons_succ]
        refine wpAnyH_take (i := 8) (v := z) rfl (by kernel_rfl) (by kernel_rfl) (by kernel_rfl) (fun _ _ _ h => h) (Or.inl ⟨by rfl, ?y8⟩) hHeld ?_
        case y8 =>
          intro wx hS
          go_simp
        simp only [List.getElem_toArray, List.getElem_cons_succ, List.getElem_cons_zero, Act.put, List.setIfInBounds_toArray, List.set_cons_zero, List.set_cons_succ]
        refine wpAnyH_ready (rs := [6]) (by kernel_rfl) (by simp) ?_
        refine AllReadyH.cons rfl (fun K hK => ?_) AllReadyH.nil
        simp only [List.getElem_toArray, List.getElem_cons_succ, List.getElem_cons_zero]
        rw [if_pos (by rfl)]
        go_simp
        refine (worst_raw _ v z must may x _ (H1.out.1.keep hHeld.2) (H1.out.2.1.keep hHeld.2) ((HG.out.2.2.2.keep H1.out.2.2.2).keep hHeld.2) (by omega)).mono ?_
        rintro e w2 ⟨v2, rfl, hr2, hb2⟩
        go_simp
        refine hK.out _ _ ⟨hHeld.1.on hb2, hHeld.2.trans (hb2.mono hHeld.2.size)⟩ (fun hHeld => ?_)
        rw [HK.out.2.2.1] at hr2
        clear hK K
        try simp only [List.getElem_toArray, List.getElem_cons_succ, List.getElem_cons_zero, Act.put, List.setIfInBounds_toArray, List.set_cons_zero, List.set_cons_succ]
        refine wpAnyH_ready (rs := [7]) (by kernel_rfl) (by simp) ?_
        refine AllReadyH.cons rfl (fun K hK => ?_) AllReadyH.nil
        simp only [List.getElem_toArray, List.getElem_cons_succ, List.getElem_cons_zero]
        rw [if_pos (by rfl)]
        go_simp
        refine (orFirst_any _ v2 M R F _ _ ((HG.out.1.on H1.out.2.2.2).on hHeld.2) hr2 HK.out.2.1).mono ?_
        rintro e w3 ⟨v3, rfl, hr3, hb3⟩
        go_simp
        refine hK.out _ _ ⟨hHeld.1.on hb3, hHeld.2.trans (hb3.mono hHeld.2.size)⟩ (fun hHeld => ?_)
        clear hK K
        try simp only [List.getElem_toArray, List.getElem_cons_succ, List.getElem_cons_zero, Act.put, List.setIfInBounds_toArray, List.set_cons_zero, List.set_cons_succ]
        refine wpAnyH_ready (rs := [9]) (by kernel_rfl) (by simp) ?_
        refine AllReadyH.cons rfl (fun K hK => ?_) AllReadyH.nil
        simp only [List.getElem_toArray, List.getElem_cons_succ, List.getElem_cons_zero]
        rw [if_pos (by rfl)]
        go_simp
        refine (isq_any M v3 z _ x _ hr3 ((HG.out.2.2.2.keep H1.out.2.2.2).keep hHeld.2)).mono ?_
        rintro e w4 ⟨rfl, rfl⟩
        go_simp
        refine hK.out _ _ hHeld (fun hHeld => ?_)
        clear hK K
        try simp only [List.getElem_toArray, List.getElem_cons_succ, List.getElem_cons_zero, Act.put, List.setIfInBounds_toArray, List.set_cons_zero, List.set_cons_succ]
        refine wpAnyH_take (i := 10) (v := (.bool (isQ M (orFirst F (worstL R F B C x)) x))) rfl (by kernel_rfl) (by kernel_rfl) (by kernel_rfl) (fun _ _ _ h => h) (Or.inl ⟨by rfl, ?y10⟩) hHeld ?_
        case y10 =>
          intro wx hS
          go_simp
        simp only [List.getElem_toArray, List.getElem_cons_succ, List.getElem_cons_zero, Act.put, List.setIfInBounds_toArray, List.set_cons_zero, List.set_cons_succ]
        refine wpAnyH_done (by kernel_rfl) ?_ _
        go_wp2
        go_ret
        exact ⟨by rw [HE.out]; rfl, HB1.out.trans (hHeld.2.mono HB1.out.size)⟩
      · have HE : Hid (quorateB M R F B C x = false) := Lib.hid (by rw [HK.out.2.2.2, decide_eq_true hm0, decide_eq_false hf]; rfl)
        rw [decide_eq_false hf] at HC
        have h0 : ((must.length : Int) == 0) = true := beq_t (by omega)
        clear hm0 hl0 hf
        go_wp2_with (refine HC.out.mono ?_; rintro e w4 ⟨rfl, rfl⟩)
        go_ret
        exact ⟨by rw [HE.out]; rfl, HB1.out⟩
    · have HE : Hid (quorateB M R F B C x = isQ M (orFirst F (worstL R F B C x)) x) := Lib.hid (by rw [HK.out.2.2.2, decide_eq_false hm0]; rfl)
      have h0 : ((must.length : Int) == 0) = false := beq_f (by have := List.length_pos_iff.2 hm0; omega)
      clear hm0
      go_wp2
      obtain ⟨w0, hw0⟩ : ∃ w0, w0 = w1.drew := ⟨_, rfl⟩
      refine wp_region_held_drew (S := fun w' => Blk w' w.heap.size 25 #[.int .i64 M, .int .i64 R, .slice (some ⟨bF, oF, none⟩) F.length k1, .int .i64 cl, .slice a2 n2 k2, .slice a3 n3 k3] ∧ Below w1.heap.size w1 w') (by kernel_rfl) ⟨H1.out.2.2.1.drewN 1, below_drewN 1⟩ (fun hHeld => ?_)
      rw [← hw0] at hHeld ⊢
      clear hw0 g0 g1 g2 g3 g4 g5
      refine wpAnyH_take (i := 0) (v := (.pointer (some ⟨w.heap.size, 0, none⟩))) rfl (by kernel_rfl) (by kernel_rfl) (by kernel_rfl) (fun _ _ _ h => h) (Or.inl ⟨by rfl, ?y0⟩) hHeld ?_
      case y0 =>
        intro wx hS
        go_simp
      simp only [List.getElem_toArray, List.getElem_cons_zero, Act.put, List.setIfInBounds_toArray, List.set_cons_zero, List.set_cons_succ]
      refine wpAnyH_take (i := 1) (v := (.int .i64 M)) rfl (by kernel_rfl) (by kernel_rfl) (by kernel_rfl) (fun _ _ _ h => h) (Or.inl ⟨by rfl, ?y1⟩) hHeld ?_
      case y1 =>
        intro wx hS
        have g0 := hS.1.cell 0
        go_simp
      simp only [List.getElem_toArray, List.getElem_cons_succ, List.getElem_cons_zero, Act.put, List.setIfInBounds_toArray, List.set_cons_zero, List.set_cons_succ]
      refine wpAnyH_take (i := 2) (v := (.agg #[.int .i64 M, .int .i64 R, .slice (some ⟨bF, oF, none⟩) F.length k1, .int .i64 cl, .slice a2 n2 k2, .slice a3 n3 k3])) rfl (by kernel_rfl) (by kernel_rfl) (by kernel_rfl) (fun _ _ _ h => h) (Or.inl ⟨by rfl, ?y2⟩) hHeld ?_
      case y2 =>
        intro wx hS
        have g0 := hS.1.cell 0
        have g1 := hS.1.cell 1
        have g2 := hS.1.cell 2
        have g3 := hS.1.cell 3
        have g4 := hS.1.cell 4
        have g5 := hS.1.cell 5
        go_simp
      simp only [List.getElem_toArray, List.getElem_cons_succ, List.getElem_cons_zero, Act.put, List.setIfInBounds_toArray, List.set_cons_zero, List.set_cons_succ]
      refine wpAnyH_take (i := 3) (v := (.slice ao must.length cap)) rfl (by kernel_rfl) (by kernel_rfl) (by kernel_rfl) (fun _ _ _ h => h) (Or.inl ⟨by rfl, ?y3⟩) hHeld ?_
      case y3 =>
        intro wx hS
        go_simp
      simp only [List.getElem_toArray, List.getElem_cons_succ, List.getElem_cons_zero, Act.put, List.setIfInBounds_toArray, List.set_cons_zero, List.set_cons_succ]
      refine wpAnyH_take (i := 4) (v := v) rfl (by kernel_rfl) (by kernel_rfl) (by kernel_rfl) (fun _ _ _ h => h) (Or.inl ⟨by rfl, ?y4⟩) hHeld ?_
      case y4 =>
        intro wx hS
        go_simp
      simp only [List.getElem_toArray, List.getElem_cons_succ, List.getElem_cons_zero, Act.put, List.setIfInBounds_toArray, List.set_cons_zero, List.set_cons_succ]
      refine wpAnyH_take (i := 5) (v := z) rfl (by kernel_rfl) (by kernel_rfl) (by kernel_rfl) (fun _ _ _ h => h) (Or.inl ⟨by rfl, ?y5⟩) hHeld ?_
      case y5 =>
        intro wx hS
        go_simp
      simp only [List.getElem_toArray, List.getElem_cons_succ, List.getElem_cons_zero, Act.put, List.setIfInBounds_toArray, List.set_cons_zero, List.set_cons_succ]
      refine wpAnyH_take (i := 8) (v := z) rfl (by kernel_rfl) (by kernel_rfl) (by kernel_rfl) (fun _ _ _ h => h) (Or.inl ⟨by rfl, ?y8⟩) hHeld ?_
      case y8 =>
        intro wx hS
        go_simp
      simp only [List.getElem_toArray, List.getElem_cons_succ, List.getElem_cons_zero, Act.put, List.setIfInBounds_toArray, List.set_cons_zero, List.set_cons_succ]
      refine wpAnyH_ready (rs := [6]) (by kernel_rfl) (by simp) ?_
      refine AllReadyH.cons rfl (fun K hK => ?_) AllReadyH.nil
      simp only [List.getElem_toArray, List.getElem_cons_succ, List.getElem_cons_zero]
      rw [if_pos (by rfl)]
      go_simp
      refine (worst_raw _ v z must may x _ (H1.out.1.keep hHeld.2) (H1.out.2.1.keep hHeld.2) ((HG.out.2.2.2.keep H1.out.2.2.2).keep hHeld.2) (by omega)).mono ?_
      rintro e w2 ⟨v2, rfl, hr2, hb2⟩
      go_simp
      refine hK.out _ _ ⟨hHeld.1.on hb2, hHeld.2.trans (hb2.mono hHeld.2.size)⟩ (fun hHeld => ?_)
      rw [HK.out.2.2.1] at hr2
      clear hK K
      try simp only [List.getElem_toArray, List.getElem_cons_succ, List.getElem_cons_zero, Act.put, List.setIfInBounds_toArray, List.set_cons_zero, List.set_cons_succ]
      refine wpAnyH_ready (rs := [7]) (by kernel_rfl) (by simp) ?_
      refine AllReadyH.cons rfl (fun K hK => ?_) AllReadyH.nil
      simp only [List.getElem_toArray, List.getElem_cons_succ, List.getElem_cons_zero]
      rw [if_pos (by rfl)]
      go_simp
      refine (orFirst_any _ v2 M R F _ _ ((HG.out.1.on H1.out.2.2.2).on hHeld.2) hr2 HK.out.2.1).mono ?_
      rintro e w3 ⟨v3, rfl, hr3, hb3⟩
      go_simp
      refine hK.out _ _ ⟨hHeld.1.on hb3, hHeld.2.trans (hb3.mono hHeld.2.size)⟩ (fun hHeld => ?_)
      clear hK K
      try simp only [List.getElem_toArray, List.getElem_cons_succ, List.getElem_cons_zero, Act.put, List.setIfInBounds_toArray, List.set_cons_zero, List.set_cons_succ]
      refine wpAnyH_ready (rs := [9]) (by kernel_rfl) (by simp) ?_
      refine AllReadyH.cons rfl (fun K hK => ?_) AllReadyH.nil
      simp only [List.getElem_toArray, List.getElem_cons_succ, List.getElem_cons_zero]
      rw [if_pos (by rfl)]
      go_simp
      refine (isq_any M v3 z _ x _ hr3 ((HG.out.2.2.2.keep H1.out.2.2.2).keep hHeld.2)).mono ?_
      rintro e w4 ⟨rfl, rfl⟩
      go_simp
      refine hK.out _ _ hHeld (fun hHeld => ?_)
      clear hK K
      try simp only [List.getElem_toArray, List.getElem_cons_succ, List.getElem_cons_zero, Act.put, List.setIfInBounds_toArray, List.set_cons_zero, List.set_cons_succ]
      refine wpAnyH_take (i := 10) (v := (.bool (isQ M (orFirst F (worstL R F B C x)) x))) rfl (by kernel_rfl) (by kernel_rfl) (by kernel_rfl) (fun _ _ _ h => h) (Or.inl ⟨by rfl, ?y10⟩) hHeld ?_
      case y10 =>
        intro wx hS
        go_simp
      simp only [List.getElem_toArray, List.getElem_cons_succ, List.getElem_cons_zero, Act.put, List.setIfInBounds_toArray, List.set_cons_zero, List.set_cons_succ]
      refine wpAnyH_done (by kernel_rfl) ?_ _
      go_wp2
      go_ret
      exact ⟨by rw [HE.out]; rfl, HB1.out.trans (hHeld.2.mono HB1.out.size)⟩
  · have hok := Bool.eq_false_iff.2 hok
    have HE : Hid (quorateB M R F B C x = false) := Lib.hid (by unfold quorateB; rw [hok, Bool.false_and, Bool.false_and])
    have HOK := Lib.hid hok
    clear hok
    go_enter Try.func24, Try.ntmps24
    go_wp2_with fail
    refine (HI.out _).mono ?_
    rintro e w1 ⟨u, v, rfl, r1, r2, hb1⟩
    rw [HOK.out]
    have H1 := Lib.hid (((Below.refl w.heap.size w).alloc (Nat.le_refl _) (.cells #[.int .i64 M, .int .i64 R, .slice a1 n1 k1, .int .i64 cl, .slice a2 n2 k2, .slice a3 n3 k3] 25)).trans (hb1.mono (by simp)))
    clear r1 r2 hb1
    go_wp2
    go_ret
    exact ⟨by rw [HE.out]; rfl, H1.out⟩
end Go.Proofs.Ytahpecbcpgjinaa

