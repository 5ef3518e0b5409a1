/-
  Chapter 29: the sort of ready.
-/
import Derived.Shelf.SlSortCmp.NoneTotal
import Derived.Ground.SlsfProg
import Derived.Test.YtfdicndmebhmdaaEf
import Derived.Test.YtfdicndmebhmdaaGb
namespace Go.Proofs.Ytfdicndmebhmdaa
open Go.Shelf Go.RowKit Go.Lib Go.Sort Go.Maps
def sortInts_ren : Go.Shelf.Ren := ⟨fun | 6 => 52 | 15 => 57 | 14 => 59 | 28 => 69 | 29 => 70 | 20 => 71 | 21 => 72 | 22 => 73 | 23 => 74 | 24 => 75 | 25 => 76 | 26 => 77 | 27 => 78 | 46 => 85 | 47 => 80 | 48 => 81 | 49 => 86 | 50 => 87 | 57 => 89 | n => n, fun | 22 => 25 | 24 => 3 | 25 => 67 | 3 => 3 | 39 => 72 | 0 => 0 | 53 => 84 | 55 => 86 | 4 => 4 | 46 => 76 | 45 => 75 | 50 => 81 | 5 => 5 | 9 => 9 | 66 => 92 | 70 => 96 | 76 => 100 | 77 => 101 | n => n, fun | n => n⟩
theorem sortInts : Go.Proofs.SlLaysF.n6 Try.prog sortInts_ren := {
  mixed := by kernel_rfl
  f6 := ⟨Try.f52.name, by decide, Try.func52.trans (congrArg some (by kernel_rfl))⟩
  f14 := ⟨Try.f59.name, by decide, Try.func59.trans (congrArg some (by kernel_rfl))⟩
  f15 := Try.func57.trans (congrArg some (by kernel_rfl))
  f20 := ⟨Try.f71.name, by decide, Try.func71.trans (congrArg some (by kernel_rfl))⟩
  f21 := ⟨Try.f72.name, by decide, Try.func72.trans (congrArg some (by kernel_rfl))⟩
  f22 := ⟨Try.f73.name, by decide, Try.func73.trans (congrArg some (by kernel_rfl))⟩
  f23 := ⟨Try.f74.name, by decide, Try.func74.trans (congrArg some (by kernel_rfl))⟩
  f24 := ⟨Try.f75.name, by decide, Try.func75.trans (congrArg some (by kernel_rfl))⟩
  f25 := ⟨Try.f76.name, by decide, Try.func76.trans (congrArg some (by kernel_rfl))⟩
  f26 := ⟨Try.f77.name, by decide, Try.func77.trans (congrArg some (by kernel_rfl))⟩
  f27 := ⟨Try.f78.name, by decide, Try.func78.trans (congrArg some (by kernel_rfl))⟩
  f28 := Try.func69.trans (congrArg some (by kernel_rfl))
  f29 := Try.func70.trans (congrArg some (by kernel_rfl))
  f46 := ⟨Try.f85.name, by decide, Try.func85.trans (congrArg some (by kernel_rfl))⟩
  f47 := Try.func80.trans (congrArg some (by kernel_rfl))
  f48 := Try.func81.trans (congrArg some (by kernel_rfl))
  f49 := ⟨Try.f86.name, by decide, Try.func86.trans (congrArg some (by kernel_rfl))⟩
  f50 := ⟨Try.f87.name, by decide, Try.func87.trans (congrArg some (by kernel_rfl))⟩
  f57 := ⟨Try.f89.name, by decide, Try.func89.trans (congrArg some (by kernel_rfl))⟩
  t0 := Try.underlying0
  a0 := Try.isAgg0
  z0 := Try.sizeOf0
  v0 := Try.zeroValue0
  t3 := Try.underlying3
  a3 := Try.isAgg3
  z3 := Try.sizeOf3
  v3 := Try.zeroValue3
  t4 := Try.underlying4
  a4 := Try.isAgg4
  z4 := Try.sizeOf4
  v4 := Try.zeroValue4
  t5 := Try.underlying5
  a5 := Try.isAgg5
  z5 := Try.sizeOf5
  v5 := Try.zeroValue5
  t9 := Try.underlying9
  a9 := Try.isAgg9
  z9 := Try.sizeOf9
  v9 := Try.zeroValue9
  t22 := Try.underlying25
  a22 := Try.isAgg25
  z22 := Try.sizeOf25
  v22 := Try.zeroValue25
  a24 := Try.isAgg3
  z24 := Try.sizeOf3
  t25 := Try.underlying67
  a25 := Try.isAgg67
  z25 := Try.sizeOf67
  v25 := Try.zeroValue67
  t39 := Try.underlying72
  a39 := Try.isAgg72
  z39 := Try.sizeOf72
  v39 := Try.zeroValue72
  t45 := Try.underlying75
  a45 := Try.isAgg75
  z45 := Try.sizeOf75
  v45 := Try.zeroValue75
  t46 := Try.underlying76
  a46 := Try.isAgg76
  z46 := Try.sizeOf76
  v46 := Try.zeroValue76
  t50 := Try.underlying81
  a50 := Try.isAgg81
  z50 := Try.sizeOf81
  v50 := Try.zeroValue81
  t53 := Try.underlying84
  a53 := Try.isAgg84
  z53 := Try.sizeOf84
  v53 := Try.zeroValue84
  t55 := Try.underlying86
  a55 := Try.isAgg86
  z55 := Try.sizeOf86
  v55 := Try.zeroValue86
  t66 := Try.underlying92
  a66 := Try.isAgg92
  z66 := Try.sizeOf92
  v66 := Try.zeroValue92
  t70 := Try.underlying96
  a70 := Try.isAgg96
  z70 := Try.sizeOf96
  v70 := Try.zeroValue96
  t76 := Try.underlying100
  a76 := Try.isAgg100
  z76 := Try.sizeOf100
  v76 := Try.zeroValue100
  t77 := Try.underlying101
  a77 := Try.isAgg101
  z77 := Try.sizeOf101
  v77 := Try.zeroValue101 }

theorem Drew.grow {w w' : World} (h : Drew w w') : ∃ q os', w' = Sort.grow (w.drewN q) os' := by
  obtain ⟨q, rfl⟩ := h
  exact (Gb.GB.refl w.heap.size w |>.drewN q).grow
theorem cfE_lt (t : List Ev) (i k : Nat) : decide (cfE t i k < 0) = decide (nmI t i < nmI t k) := by
  unfold cfE
  by_cases h1 : nmI t i < nmI t k
  · rw [if_pos h1]; simp [h1]
  · rw [if_neg h1]
    by_cases h2 : nmI t k < nmI t i
    · rw [if_pos h2]; simp [h1]
    · rw [if_neg h2]; simp [h1]
set_option maxHeartbeats 2000000 in
theorem rdysort_any (B p0 gs : Nat) (tv o : Value) (t : List Ev) (us : Nat → Bool) (W0 w : World) (hrow0 : w.ownsRow B 3 1 o (rdyL t us).length ((rdyL t us).map nv)) (hp : w.cell? ⟨p0, 0, none⟩ = some (.pointer (some ⟨gs, 0, none⟩))) (hpB : p0 < B) (hs : w.cell? ⟨gs, 0, none⟩ = some tv) (hgB : gs < B)
    (hr : ReadsE W0 tv t) (hb : Below W0.heap.size W0 w) (hWB : W0.heap.size ≤ B) (hBw : B ≤ w.heap.size) (hn : t.length ≤ 1000) :
    Calls Try.prog 52 #[o, .func (.func 53) #[] #[.pointer (some ⟨p0, 0, none⟩)]] w fun e w' => e = .returned (.tuple #[]) ∧ Reads nv w' o (rdyS t us) ∧ Below B w w' := by
  have hll : (rdyL t us).length ≤ 1000 := Nat.le_trans (List.length_filter_le _ _) (by simpa using hn)
  by_cases h0 : rdyL t us = []
  · have hS : rdyS t us = [] := by unfold rdyS; rw [h0]; rfl
    rw [h0] at hrow0
    obtain ⟨oa, oc, rfl⟩ := row_slc hrow0
    refine (AnyF.slices_SortFunc_none (P := Try.prog) (ρ := sortInts_ren) { sortInts with } oa oc _ w).mono ?_
    rintro e w' ⟨rfl, rfl⟩
    rw [hS]
    exact ⟨rfl, Reads.of_owns (enc := nv) (xs := []) hrow0, Below.refl _ _⟩
  · have hne : o ≠ .slice none 0 0 := by
      rintro rfl
      rcases hrow0.2 with ⟨_, h⟩ | ⟨g, c, cur, h, _⟩
      · exact h0 (List.length_eq_zero_iff.1 h)
      · cases h
    obtain ⟨i0, hi0⟩ := List.exists_mem_of_ne_nil _ h0
    haveI : Inhabited { x : Nat // x ∈ rdyL t us } := ⟨⟨i0, hi0⟩⟩
    obtain ⟨D, hD⟩ : ∃ D : List { x : Nat // x ∈ rdyL t us }, D = (rdyL t us).attach := ⟨_, rfl⟩
    have hDm : D.map (fun x => x.val) = rdyL t us := by rw [hD]; exact List.attach_map_subtype_val _
    obtain ⟨enc, henc⟩ : ∃ enc : { x : Nat // x ∈ rdyL t us } → Value, enc = fun x => .int .i64 ((x.val : Nat) : Int) := ⟨_, rfl⟩
    have hDl : D.length = (rdyL t us).length := by have := congrArg List.length hDm; rwa [List.length_map] at this
    have hrow : w.ownsRow B 3 1 o (rdyL t us).length (D.map enc) := by
      have h2 : (rdyL t us).map nv = D.map enc := by
        have := congrArg (List.map nv) hDm
        rw [List.map_map] at this
        rw [henc]; exact this.symm
      rwa [h2] at hrow0
    obtain ⟨g, cap, rfl, hbg, hgl, hncap, hcm, hlen, hH⟩ := Lib.holds_of_ownsRow hrow hne
    obtain ⟨cf, hcf⟩ : ∃ cf : { x : Nat // x ∈ rdyL t us } → { x : Nat // x ∈ rdyL t us } → Int, cf = fun x y => cfE t x.val y.val := ⟨_, rfl⟩
    have hlt : ∀ x y, ltOf cf x y = decide (nmI t x.val < nmI t y.val) := fun x y => by
      rw [hcf]
      exact cfE_lt t x.val y.val
    have hO : SWO (ltOf cf) := by
      refine ⟨fun x => ?_, fun x y z h1 h2 => ?_, fun x y z h1 h2 => ?_⟩
      · rw [hlt]; exact decide_eq_false (by omega)
      · rw [hlt] at *
        have a1 := of_decide_eq_true h1
        have a2 := of_decide_eq_true h2
        exact decide_eq_true (by omega)
      · rw [hlt] at *
        have a1 := of_decide_eq_false h1
        have a2 := of_decide_eq_false h2
        exact decide_eq_false (by omega)
    have hT : ∀ x y, ltOf cf x y = false → ltOf cf y x = false → x = y := fun x y h1 h2 => by
      rw [hlt] at h1 h2
      have a1 := of_decide_eq_false h1
      have a2 := of_decide_eq_false h2
      refine Subtype.ext (Classical.byContradiction fun q => ?_)
      exact rdy_name (mem_rdyL.1 x.2).2 (mem_rdyL.1 y.2).2 q (by omega)
    have eg : ∀ args w, (callFunc 53 args).run Try.prog w = .ok (.enter 53 args) w := enters_of Try.func53 (by kernel_rfl) rfl
    have hbs : ∀ m (dk : Array { x : Nat // x ∈ rdyL t us }) os, Below B w (sortWorld enc w g 0 m dk os) := fun m dk os => by
      have h1 := Go.Lib.below_putRow (enc := enc) (q := m) (d := dk) (Below.refl B w) hbg
      unfold sortWorld
      refine ⟨h1.os, h1.tape, h1.output, Nat.le_trans h1.size (by simp [grow]), fun i hi => ?_⟩
      rw [heap_grow_old _ _ (by rw [size_putRow]; show i < w.heap.size; omega)]
      exact h1.block i hi
    have hcmp : CmpLays1 Try.prog 53 #[.pointer (some ⟨p0, 0, none⟩)] enc cf g 0 D.toArray.size w := fun m os dk hsz x y => by
      have hb2 := hbs m dk os
      have c1 : (sortWorld enc w g 0 m dk os).cell? ⟨p0, 0, none⟩ = some (.pointer (some ⟨gs, 0, none⟩)) := (hb2.cell (p := ⟨p0, 0, none⟩) hpB).trans hp
      have c2 : (sortWorld enc w g 0 m dk os).cell? ⟨gs, 0, none⟩ = some tv := (hb2.cell (p := ⟨gs, 0, none⟩) hgB).trans hs
      have hq := rdyclo_any p0 gs tv t x.val y.val _ c1 c2 (hr.on (hb.trans (hb2.mono hWB))) (mem_rdyL.1 x.2).1 (mem_rdyL.1 y.2).1
      subst henc hcf
      refine Calls.mono hq fun e w' he => ?_
      obtain ⟨q, os', h1⟩ := he.2.grow
      exact ⟨he.1, q, os', h1⟩
    have hso := Any.slices_SortFunc_total sortInts enc (fun x => by rw [henc]; rfl) cf hO 53 #[.pointer (some ⟨p0, 0, none⟩)] g 0 cap D.toArray w eg hcmp hH hgl (by simp; omega) hT
    have hsz1 : D.toArray.size = (rdyL t us).length := by simp [hDl]
    rw [hsz1] at hso
    refine hso.mono ?_
    rintro e w' ⟨rfl, m, os, rfl⟩
    obtain ⟨E, hE⟩ : ∃ E, E = D.mergeSort fun x y => !(ltOf cf) y x := ⟨_, rfl⟩
    have hEp : E.Perm D := by rw [hE]; exact List.mergeSort_perm _ _
    have hEs : E.Pairwise fun a b => (!(ltOf cf) b a) = true := by
      rw [hE]
      refine List.pairwise_mergeSort (fun a b c h1 h2 => ?_) (fun a b => ?_) D
      · rw [Bool.not_eq_true'] at *
        exact hO.ntrans _ _ _ h2 h1
      · cases h1 : ltOf cf b a with
        | false => rfl
        | true =>
          have : ltOf cf a b = false := Bool.eq_false_iff.2 fun h2 => by
            have := hO.trans _ _ _ h1 h2
            rw [hO.irrefl] at this; cases this
          rw [this]; rfl
    rw [← hE]
    have hEl : E.length = (rdyL t us).length := by rw [hEp.length_eq]; exact hDl
    have hh := holds_sortWorld enc w g 0 m D.toArray E.toArray os hgl hH (by simp [hEl, hDl])
    have hEE : E.map (fun x => x.val) = rdyS t us := by
      refine rdy_sort ((hEp.map (fun x => x.val)).trans (List.Perm.of_eq hDm)) ?_
      rw [List.pairwise_map]
      refine hEs.imp ?_
      intro a b h1
      rw [Bool.not_eq_true', hlt] at h1
      exact of_decide_eq_false h1
    refine ⟨rfl, ?_, hbs m _ os⟩
    rw [← hEE]
    have hl3 : (E.map fun x => x.val).length = (rdyL t us).length := by simp [hEl]
    refine ⟨some ⟨g, 0, none⟩, cap, by rw [hl3], by rw [hl3]; exact hncap, hcm, (fun e => by cases e), fun _ => ⟨g, 0, rfl, ?_, fun j hj => ?_⟩⟩
    · exact Nat.lt_of_lt_of_le hgl (hbs m _ os).size
    · have h1 := (hh j (by simp [hEl]; omega)).1
      rw [h1, getElem!_pos E.toArray j (by simp [hEl]; omega), henc]
      unfold nv
      simp
end Go.Proofs.Ytfdicndmebhmdaa
