/-
  Chapter 39: Reach.
-/
import Derived.Test.YtahpecbcpgjinaaCq
namespace Go.Proofs.Ytahpecbcpgjinaa
open Go.RowKit Go.Sort

theorem compactI_mem (zs : List Int) (s : Int) : s ∈ Lib.compact zs ↔ s ∈ zs := by
  unfold Lib.compact Lib.compactUpTo
  simp only [List.mem_map, List.mem_filter, List.mem_range]
  constructor
  · rintro ⟨j, ⟨hj, _⟩, rfl⟩
    rw [getElem!_pos _ _ (by simpa using hj)]
    simp
  · intro h
    obtain ⟨j, hj, rfl⟩ := List.getElem_of_mem h
    have key : ∀ j (hj : j < zs.length), ∃ i, (i < zs.length ∧ Lib.keeps zs.toArray i = true) ∧ zs.toArray[i]! = zs[j] := by
      intro j
      induction j using Nat.strongRecOn with
      | _ j ih =>
        intro hj
        by_cases hk : Lib.keeps zs.toArray j = true
        · exact ⟨j, ⟨hj, hk⟩, by rw [getElem!_pos _ _ (by simpa using hj)]; simp⟩
        · have hn : ¬ (j = 0 ∨ zs.toArray[j]! ≠ zs.toArray[j - 1]!) := by
            intro h; exact hk (by unfold Lib.keeps; exact decide_eq_true h)
          have h0 : j ≠ 0 := fun e => hn (.inl e)
          have he : zs.toArray[j]! = zs.toArray[j - 1]! := Decidable.byContradiction fun e => hn (.inr e)
          rw [getElem!_pos _ _ (by simpa using hj), getElem!_pos _ _ (by simp; omega)] at he
          obtain ⟨i, h1, h2⟩ := ih (j - 1) (by omega) (by omega)
          refine ⟨i, h1, h2.trans ?_⟩
          simpa using he.symm
    exact key j hj
theorem compactI_sorted (zs : List Int) (h : zs.Pairwise (· ≤ ·)) : (Lib.compact zs).Pairwise (· < ·) := by
  unfold Lib.compact Lib.compactUpTo
  rw [List.pairwise_map]
  refine List.Pairwise.imp_of_mem ?_ ((List.pairwise_lt_range (n := zs.length)).filter _)
  intro i j hi hj hlt
  simp only [List.mem_filter, List.mem_range] at hi hj
  have hk : j = 0 ∨ zs.toArray[j]! ≠ zs.toArray[j - 1]! := of_decide_eq_true hj.2
  have hne : zs.toArray[j]! ≠ zs.toArray[j - 1]! := hk.resolve_left (by omega)
  rw [getElem!_pos _ _ (by simpa using hj.1), getElem!_pos _ _ (by simp; omega)] at hne
  rw [getElem!_pos zs.toArray i (by simp; omega), getElem!_pos zs.toArray j (by simpa using hj.1)]
  simp only [List.getElem_toArray] at hne ⊢
  have h1 := List.pairwise_iff_getElem.1 h (j - 1) j (by omega) hj.1 (by omega)
  by_cases e : i = j - 1
  · subst e; omega
  · have h2 := List.pairwise_iff_getElem.1 h i (j - 1) (by omega) (by omega) (by omega)
    omega

/-- slices.Compact of a row of the call's own. -/
theorem compact_own {w0 w1 : World} {v : Value} {l : List Int} (hown : w1.ownsRow w0.heap.size 3 1 v l.length (l.map vi)) (hbel : Below w0.heap.size w0 w1) (hn : l.length ≤ 1000000) :
    Calls Try.prog 46 #[v] w1 (fun e w' => ∃ v', e = .returned v' ∧ Reads vi w' v' (Lib.compact l) ∧ Below w0.heap.size w0 w') := by
  rcases hown.2 with ⟨rfl, h0⟩ | ⟨g, cap, cur, rfl, hbase, hb, h1, h2, h3, h4⟩
  · have hl : l = [] := List.length_eq_zero_iff.1 h0
    subst hl
    refine (Try.slices_Compact_int_empty none 0 w1).mono fun e w' ⟨he, hw⟩ => ⟨_, he, ?_⟩
    subst hw
    exact ⟨Reads.nil _, hbel⟩
  · have hH : Holds (Value.int .i64) w1 g 0 l.toArray := fun j hj => by
      have hj' : j < l.length := by simpa using hj
      rw [Nat.zero_add, hown.cellAt j (by omega), hown.frozenAt j, List.getElem?_map, List.getElem?_eq_getElem hj', getElem!_pos _ _ (by simpa using hj')]
      exact ⟨rfl, rfl⟩
    have hle := Lib.compact_length_le l
    refine (Try.slices_Compact_int g 0 cap l w1 hH (by omega) h1).mono fun e w' ⟨he, q, hw⟩ => ⟨_, he, ?_⟩
    subst hw
    have hs := Lib.ownsRow_putRow (enc := Value.int .i64) (q := q) (k := (Lib.compact l).length) (ys := Lib.compact l ++ List.replicate (l.length - (Lib.compact l).length) 0) hown (by simp; omega) hle
    rw [List.take_left] at hs
    exact ⟨Reads.of_owns (enc := vi) hs, Lib.below_putRow hbel hbase⟩

def reachP (M R : Int) (F : List Int) (B C : List Cmd) (r : Int) : Bool := mustP F B C r || mayP F B C r || (decide (mustL M R F B C = []) && decide (r = F.headD 0))
def reachL (M R : Int) (F : List Int) (B C : List Cmd) : List Int := if okB M R F B C = true then (reps R).filter (reachP M R F B C) else []
theorem reach_eq {M R : Int} {F : List Int} {B C : List Cmd} (hok : okB M R F B C = true) :
    Lib.compact (sortI (mustL M R F B C ++ mayL M R F B C ++ if mustL M R F B C = [] then [F.headD 0] else [])) = reachL M R F B C := by
  have hh := head_bd (ok_parts hok).1
  unfold reachL
  rw [if_pos hok]
  refine ints_unique _ _ (compactI_sorted _ (sortI_le _)) ((reps_sorted R).filter _) fun r => ?_
  rw [compactI_mem, sortI_mem]
  unfold reachP
  have e1 : r ∈ mustL M R F B C ↔ r ∈ reps R ∧ mustP F B C r = true := by unfold mustL; rw [if_pos hok, List.mem_filter]
  have e2 : r ∈ mayL M R F B C ↔ r ∈ reps R ∧ mayP F B C r = true := by unfold mayL; rw [if_pos hok, List.mem_filter]
  have e3 : r ∈ (if mustL M R F B C = [] then [F.headD 0] else []) ↔ r ∈ reps R ∧ (decide (mustL M R F B C = []) && decide (r = F.headD 0)) = true := by
    by_cases h : mustL M R F B C = []
    · rw [if_pos h, decide_eq_true h, Bool.true_and, List.mem_singleton, decide_eq_true_eq]
      exact ⟨fun e => ⟨by rw [e]; exact mem_reps.2 hh, e⟩, fun e => e.2⟩
    · rw [if_neg h, decide_eq_false h]; simp
  rw [List.mem_append, List.mem_append, e1, e2, e3, List.mem_filter, Bool.or_eq_true, Bool.or_eq_true]
  constructor
  · rintro ((⟨a, b⟩ | ⟨a, b⟩) | ⟨a, b⟩)
    · exact ⟨a, .inl (.inl b)⟩
    · exact ⟨a, .inl (.inr b)⟩
    · exact ⟨a, .inr b⟩
  · rintro ⟨a, (b | b) | b⟩
    · exact .inl (.inl ⟨a, b⟩)
    · exact .inl (.inr ⟨a, b⟩)
    · exact .inr ⟨a, b⟩

set_option maxRecDepth 100000 in
set_option maxHeartbeats 4000000 in
theorem reach_any (g vB vC : Value) (M R : Int) (F : List Int) (B C : List Cmd) (w : World) (hg : Gen w g M R F) (hb : ReadsC w vB B) (hc : ReadsC w vC C) :
    Calls Try.prog 22 #[g, vB, vC] w (MadeI w (reachL M R F B C)) := by
  obtain ⟨i0, hinf, hz0, hz1, hz2⟩ := info_parts Try.infoInt
  have HI0 := Lib.hid (And.intro hinf (And.intro hz0 (And.intro hz1 hz2)))
  clear hinf hz0 hz1 hz2
  have HG := Lib.hid (And.intro hg (And.intro hb hc))
  obtain ⟨vF, cl, vA, vO, rfl, hF, ⟨a2, n2, k2, rfl⟩, ⟨a3, n3, k3, rfl⟩⟩ := hg
  have HF := Lib.hid hF
  obtain ⟨a1, n1, k1, rfl⟩ := Slc.of_reads hF
  clear hF hb hc
  unfold gen at *
  have hb0 := fun (o : Obj) => (Below.refl w.heap.size w).alloc (Nat.le_refl _) o
  have HI := Lib.hid (fun (o : Obj) => interval_any _ vB vC M R F B C (w.alloc o) (HG.out.1.on (hb0 o)) (HG.out.2.1.on (hb0 o)) (HG.out.2.2.on (hb0 o)))
  clear hb0
  by_cases hok : okB M R F B C = true
  · have hus := (ok_parts hok).1
    obtain ⟨_, ⟨hR1, hR2⟩, hF0, _, _⟩ := usable_parts hus
    have hre := @reach_eq M R F B C hok
    have hml := @must_len M R F B C
    have hyl := @may_len M R F B C
    have HK := Lib.hid (And.intro hok (And.intro hF0 hre))
    clear hre hus hF0
    go_enter Try.func22, Try.ntmps22
    go_wp2_with fail
    refine (HI.out _).mono ?_
    rintro e w1 ⟨u, v, rfl, r1, r2, hb1⟩
    rw [hok]
    have H1 : Hid (Blk w1 w.heap.size 25 #[.int .i64 M, .int .i64 R, .slice a1 n1 k1, .int .i64 cl, .slice a2 n2 k2, .slice a3 n3 k3] ∧ Reads vi w1 u (mustL M R F B C) ∧ Reads vi w1 v (mayL M R F B C) ∧ Below w.heap.size w w1) :=
      Lib.hid ⟨(Blk.new _ _ _).on hb1, r1, r2, ((Below.refl w.heap.size w).alloc (Nat.le_refl _) _).trans (hb1.mono (by simp))⟩
    have hs1 : w.heap.size < w1.heap.size := H1.out.1.lt
    clear r2 hb1 hok
    obtain ⟨ao, cap, rfl, hl, hm, _, _⟩ := r1
    unfold maxLen at hm
    generalize mustL M R F B C = must at *
    generalize mayL M R F B C = may at *
    obtain ⟨bF, oF, cF, heF, hlF, hmF, hbF, hcF⟩ := first_cell (HF.out.keep H1.out.2.2.2) HK.out.2.1
    injection heF with e1 e2 e3
    subst e1 e2 e3
    unfold maxLen at hmF
    have hF1 : 0 < F.length := List.length_pos_iff.2 HK.out.2.1
    go_wp2_with (at_builtin; refine append_reads rfl (.tmp 21) (.tmp 22) rfl w1.heap.size _ (.slice ao must.length cap) 0 [] must rfl (World.ownsRow_made w1 #[] 0 (Nat.le_refl _) (Nat.zero_le _) rfl) rfl (H1.out.2.1.keep ((Below.refl _ _).alloc (Nat.le_refl _) _)) (by omega) (by simp) ?_)
    intro v3 w3 hown3 hgr3
    have H3 := Lib.hid (And.intro hown3 (((Below.refl w1.heap.size w1).alloc (Nat.le_refl _) (.cells #[] 3)).grown hgr3 (by simp) (fun k hk => by simp [Value.ownBlock] at hk; omega)))
    clear hown3 hgr3
    go_wp2_with (at_builtin; refine append_reads rfl (.tmp 23) (.tmp 24) rfl w1.heap.size v3 v must.length must may rfl (by simpa using H3.out.1) rfl (H1.out.2.2.1.keep H3.out.2) (by omega) H3.out.2.size ?_)
    intro v4 w4 hown4 hgr4
    have hrow : ∀ k, v3.ownBlock = some k → w1.heap.size ≤ k := fun k hk => (H3.out.1.lt k hk).1
    have H4 : Hid (w4.ownsRow w1.heap.size 3 1 v4 (must ++ may).length ((must ++ may).map vi) ∧ Below w1.heap.size w1 w4) := Lib.hid ⟨by rw [List.length_append, List.map_append]; exact hown4, H3.out.2.grown hgr4 H3.out.2.size hrow⟩
    clear hown4 hgr4 hrow
    have hs4 : w.heap.size < w4.heap.size := Nat.lt_of_lt_of_le hs1 H4.out.2.size
    have c2 := (H1.out.1.on H4.out.2).cell 2
    have cF := (H4.out.2.cell hbF).trans hcF
    have hbF4 : bF < w4.heap.size := Nat.lt_of_lt_of_le hbF H4.out.2.size
    generalize F.headD 0 = f at *
    by_cases hm0 : must = []
    · have hre := HK.out.2.2
      rw [if_pos hm0] at hre
      have HRE := Lib.hid hre
      have h0 : ((must.length : Int) == 0) = true := beq_t (by rw [hm0]; rfl)
      clear hm0 hre hcF
      generalize hmm : must ++ may = mm at *
      have hmml : mm.length ≤ 24 := by rw [← hmm]; simp; omega
      clear hmm
      go_wp2_with (at_builtin; refine wpList_append_own _ rfl _ _ 22 rfl w1.heap.size 3 i0 (.int .i64 0) 1 8 Try.underlying22 HI0.out.1 HI0.out.2.1 HI0.out.2.2.1 HI0.out.2.2.2 rfl (by decide) _ _ _ rfl (by exact H4.out.1.alloc _) ⟨_, 0, none⟩ 1 1 [.int .i64 f] rfl rfl (cell_one_new _ _ _) (by intro u hu; simp at hu; subst hu; rfl) (by unfold maxLen; omega) (by omega) (by have := H4.out.2.size; simp; omega) ?_)
      intro v5 w5 hown5 hgr5 _
      have H5 := Lib.hid (append_one (x := f) H4.out.1 H4.out.2 (by exact hgr5) hown5)
      clear hown5 hgr5
      go_wp2_with fail
      refine (sort_own H5.out.1 H5.out.2 (by simp; omega)).mono ?_
      rintro e w6 ⟨rfl, ho6, hb6⟩
      have H6 := Lib.hid (And.intro ho6 hb6)
      clear ho6 hb6
      go_wp2_with fail
      refine (compact_own H6.out.1 H6.out.2 (by rw [sortI_len]; simp; omega)).mono ?_
      rintro e w7 ⟨v7, rfl, hr7, hb7⟩
      have H7 := Lib.hid (And.intro hr7 hb7)
      clear hr7 hb7
      go_wp2
      go_ret
      exact ⟨_, rfl, by rw [← HRE.out]; exact H7.out.1, H1.out.2.2.2.trans (H7.out.2.mono H1.out.2.2.2.size)⟩
    · have hre := HK.out.2.2
      rw [if_neg hm0, List.append_nil] at hre
      have HRE := Lib.hid hre
      have h0 : ((must.length : Int) == 0) = false := beq_f (by have := List.length_pos_iff.2 hm0; omega)
      clear hm0 hre hcF
      generalize hmm : must ++ may = mm at *
      have hmml : mm.length ≤ 24 := by rw [← hmm]; simp; omega
      clear hmm
      go_wp2_with fail
      refine (sort_own H4.out.1 H4.out.2 (by omega)).mono ?_
      rintro e w6 ⟨rfl, ho6, hb6⟩
      have H6 := Lib.hid (And.intro ho6 hb6)
      clear ho6 hb6
      go_wp2_with fail
      refine (compact_own H6.out.1 H6.out.2 (by rw [sortI_len]; omega)).mono ?_
      rintro e w7 ⟨v7, rfl, hr7, hb7⟩
      have H7 := Lib.hid (And.intro hr7 hb7)
      clear hr7 hb7
      go_wp2
      go_ret
      exact ⟨_, rfl, by rw [← HRE.out]; exact H7.out.1, H1.out.2.2.2.trans (H7.out.2.mono H1.out.2.2.2.size)⟩
  · have hok := Bool.eq_false_iff.2 hok
    have HE : Hid (reachL M R F B C = []) := Lib.hid (by unfold reachL; rw [if_neg (by rw [hok]; simp)])
    have HOK := Lib.hid hok
    clear hok
    go_enter Try.func22, Try.ntmps22
    go_wp2_with fail
    refine (HI.out _).mono ?_
    rintro e w1 ⟨u, v, rfl, r1, r2, hb1⟩
    rw [HOK.out]
    have H1 := Lib.hid (((Below.refl w.heap.size w).alloc (Nat.le_refl _) (.cells #[.int .i64 M, .int .i64 R, .slice a1 n1 k1, .int .i64 cl, .slice a2 n2 k2, .slice a3 n3 k3] 25)).trans (hb1.mono (by simp)))
    clear r1 r2 hb1
    go_wp2
    go_ret
    exact ⟨_, rfl, by rw [HE.out]; exact Reads.nil _, H1.out⟩
end Go.Proofs.Ytahpecbcpgjinaa
