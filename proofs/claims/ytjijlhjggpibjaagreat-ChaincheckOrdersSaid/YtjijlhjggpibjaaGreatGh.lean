/-
  Chapter 55: the state of Order, and its sort.
-/
import Derived.Shelf.SlSortCmp.NoneTotal
import Derived.Ground.SlsfProg
import Derived.Test.YtjijlhjggpibjaaGreatGf
import Derived.Test.YtjijlhjggpibjaaGreatGd
import Derived.Test.YtjijlhjggpibjaaGreatKe
namespace Go.Proofs.YtjijlhjggpibjaaGreat
open Go.Shelf Go.RowKit Go.Lib Go.Sort Go.Maps
def sortInts_ren : Go.Shelf.Ren := ⟨fun | 6 => 17 | 15 => 45 | 14 => 44 | 28 => 73 | 29 => 74 | 20 => 65 | 21 => 66 | 22 => 67 | 23 => 68 | 24 => 69 | 25 => 70 | 26 => 71 | 27 => 72 | 46 => 84 | 47 => 85 | 48 => 86 | 49 => 87 | 50 => 88 | 57 => 100 | n => n, fun | 22 => 25 | 24 => 3 | 25 => 52 | 3 => 3 | 39 => 67 | 0 => 0 | 53 => 87 | 55 => 89 | 4 => 4 | 46 => 81 | 45 => 80 | 50 => 54 | 5 => 5 | 9 => 9 | 66 => 92 | 70 => 96 | 76 => 106 | 77 => 107 | n => n, fun | n => n⟩
theorem sortInts : Go.Proofs.SlLaysF.n6 Tryz.prog sortInts_ren := {
  mixed := by kernel_rfl
  f6 := ⟨Tryz.f17.name, by decide, Tryz.func17.trans (congrArg some (by kernel_rfl))⟩
  f14 := ⟨Tryz.f44.name, by decide, Tryz.func44.trans (congrArg some (by kernel_rfl))⟩
  f15 := Tryz.func45.trans (congrArg some (by kernel_rfl))
  f20 := ⟨Tryz.f65.name, by decide, Tryz.func65.trans (congrArg some (by kernel_rfl))⟩
  f21 := ⟨Tryz.f66.name, by decide, Tryz.func66.trans (congrArg some (by kernel_rfl))⟩
  f22 := ⟨Tryz.f67.name, by decide, Tryz.func67.trans (congrArg some (by kernel_rfl))⟩
  f23 := ⟨Tryz.f68.name, by decide, Tryz.func68.trans (congrArg some (by kernel_rfl))⟩
  f24 := ⟨Tryz.f69.name, by decide, Tryz.func69.trans (congrArg some (by kernel_rfl))⟩
  f25 := ⟨Tryz.f70.name, by decide, Tryz.func70.trans (congrArg some (by kernel_rfl))⟩
  f26 := ⟨Tryz.f71.name, by decide, Tryz.func71.trans (congrArg some (by kernel_rfl))⟩
  f27 := ⟨Tryz.f72.name, by decide, Tryz.func72.trans (congrArg some (by kernel_rfl))⟩
  f28 := Tryz.func73.trans (congrArg some (by kernel_rfl))
  f29 := Tryz.func74.trans (congrArg some (by kernel_rfl))
  f46 := ⟨Tryz.f84.name, by decide, Tryz.func84.trans (congrArg some (by kernel_rfl))⟩
  f47 := Tryz.func85.trans (congrArg some (by kernel_rfl))
  f48 := Tryz.func86.trans (congrArg some (by kernel_rfl))
  f49 := ⟨Tryz.f87.name, by decide, Tryz.func87.trans (congrArg some (by kernel_rfl))⟩
  f50 := ⟨Tryz.f88.name, by decide, Tryz.func88.trans (congrArg some (by kernel_rfl))⟩
  f57 := ⟨Tryz.f100.name, by decide, Tryz.func100.trans (congrArg some (by kernel_rfl))⟩
  t0 := Tryz.underlying0
  a0 := Tryz.isAgg0
  z0 := Tryz.sizeOf0
  v0 := Tryz.zeroValue0
  t3 := Tryz.underlying3
  a3 := Tryz.isAgg3
  z3 := Tryz.sizeOf3
  v3 := Tryz.zeroValue3
  t4 := Tryz.underlying4
  a4 := Tryz.isAgg4
  z4 := Tryz.sizeOf4
  v4 := Tryz.zeroValue4
  t5 := Tryz.underlying5
  a5 := Tryz.isAgg5
  z5 := Tryz.sizeOf5
  v5 := Tryz.zeroValue5
  t9 := Tryz.underlying9
  a9 := Tryz.isAgg9
  z9 := Tryz.sizeOf9
  v9 := Tryz.zeroValue9
  t22 := Tryz.underlying25
  a22 := Tryz.isAgg25
  z22 := Tryz.sizeOf25
  v22 := Tryz.zeroValue25
  a24 := Tryz.isAgg3
  z24 := Tryz.sizeOf3
  t25 := Tryz.underlying52
  a25 := Tryz.isAgg52
  z25 := Tryz.sizeOf52
  v25 := Tryz.zeroValue52
  t39 := Tryz.underlying67
  a39 := Tryz.isAgg67
  z39 := Tryz.sizeOf67
  v39 := Tryz.zeroValue67
  t45 := Tryz.underlying80
  a45 := Tryz.isAgg80
  z45 := Tryz.sizeOf80
  v45 := Tryz.zeroValue80
  t46 := Tryz.underlying81
  a46 := Tryz.isAgg81
  z46 := Tryz.sizeOf81
  v46 := Tryz.zeroValue81
  t50 := Tryz.underlying54
  a50 := Tryz.isAgg54
  z50 := Tryz.sizeOf54
  v50 := Tryz.zeroValue54
  t53 := Tryz.underlying87
  a53 := Tryz.isAgg87
  z53 := Tryz.sizeOf87
  v53 := Tryz.zeroValue87
  t55 := Tryz.underlying89
  a55 := Tryz.isAgg89
  z55 := Tryz.sizeOf89
  v55 := Tryz.zeroValue89
  t66 := Tryz.underlying92
  a66 := Tryz.isAgg92
  z66 := Tryz.sizeOf92
  v66 := Tryz.zeroValue92
  t70 := Tryz.underlying96
  a70 := Tryz.isAgg96
  z70 := Tryz.sizeOf96
  v70 := Tryz.zeroValue96
  t76 := Tryz.underlying106
  a76 := Tryz.isAgg106
  z76 := Tryz.sizeOf106
  v76 := Tryz.zeroValue106
  t77 := Tryz.underlying107
  a77 := Tryz.isAgg107
  z77 := Tryz.sizeOf107
  v77 := Tryz.zeroValue107 }

/-- Levels as a map: of the indices of a list. -/
def finM (l : List Nat) (lv : Nat → Int) : Int → Option Int := fun s => if 0 ≤ s ∧ s.toNat ∈ l then some (lv s.toNat) else none
theorem finM_nil (lv : Nat → Int) : finM [] lv = fun _ => none := by
  funext s
  unfold finM
  rw [if_neg (by simp)]
theorem finM_at {l : List Nat} {lv : Nat → Int} {r : Nat} (h : r ∈ l) : finM l lv (r : Int) = some (lv r) := by
  unfold finM
  rw [if_pos ⟨by omega, by simpa using h⟩]; simp
theorem finM_snoc (l : List Nat) (lv : Nat → Int) (r : Nat) : updM (finM l lv) (r : Int) (lv r) = finM (l ++ [r]) lv := by
  funext s
  unfold updM
  by_cases h : s = (r : Int)
  · subst h
    rw [if_pos rfl, finM_at (by simp)]
  · rw [if_neg h]
    unfold finM
    by_cases h2 : 0 ≤ s ∧ s.toNat ∈ l
    · rw [if_pos h2, if_pos ⟨h2.1, List.mem_append_left _ h2.2⟩]
    · rw [if_neg h2, if_neg]
      rintro ⟨h3, h4⟩
      rcases List.mem_append.1 h4 with h5 | h5
      · exact h2 ⟨h3, h5⟩
      · have := List.mem_singleton.1 h5; omega
theorem updM_twice (M : Int → Option Int) (s a b : Int) : updM (updM M s a) s b = updM M s b := by
  funext x
  unfold updM
  split <;> rfl
def putO (M : Int → Option Int) (s : Int) : Option Nat → Int → Option Int
  | none => M
  | some k => updM M s (k : Int)
theorem putO_put (M : Int → Option Int) (s : Int) (q : Option Nat) (k : Nat) : updM (putO M s q) s (k : Int) = putO M s (some k) := by
  cases q with
  | none => rfl
  | some j => exact updM_twice M s _ _
theorem minL_snoc (l : List Nat) (x b : Nat) : minL (l ++ [x]) b = min (minL l b) x := by
  induction l with
  | nil => simp only [List.nil_append, minL]; omega
  | cons a l ih => simp only [List.cons_append, minL, ih]; omega
/-- Behind the view (world w3): the levels, a cell that holds them, and a row of indices. -/
structure OrdS (w3 wr : World) (o : Value) (M : Int → Option Int) (nM : Nat) (l : List Nat) : Prop where
  bel : Below w3.heap.size w3 wr
  cell : Blk wr (w3.heap.size + 1) 42 #[.map (some w3.heap.size)]
  map : MapAt plcT wr w3.heap.size nM M
  row : wr.ownsRow (w3.heap.size + 2) 3 1 o l.length ((intsNN l).map vi)
section
variable {w3 wr w' : World} {o v' : Value} {M M' : Int → Option Int} {nM nM' : Nat} {l : List Nat}
theorem OrdS.on (h : OrdS w3 wr o M nM l) (hb : Below wr.heap.size wr w') : OrdS w3 w' o M nM l :=
  ⟨h.bel.trans (hb.mono h.bel.size), h.cell.on hb, h.map.on hb, below_row h.row hb⟩
theorem OrdS.put (h : OrdS w3 wr o M nM l) (hm : MapAt plcT w' w3.heap.size nM' M') (hg : wr.grownBy w' (some w3.heap.size)) : OrdS w3 w' o M' nM' l :=
  ⟨h.bel.grown hg h.bel.size (fun j hj => by injection hj with hj; omega), (hg.block _ h.cell.lt (fun e => by injection e with e; omega)).trans h.cell, hm, h.row.kept hg (.inr fun e => by have := (h.row.lt _ e).1; omega)⟩
theorem OrdS.more (h : OrdS w3 wr o M nM l) {x : Nat} (hr : w'.ownsRow (w3.heap.size + 2) 3 1 v' (l.length + 1) ((intsNN l ++ [(x : Int)]).map vi)) (hg : wr.grownBy w' o.ownBlock) : OrdS w3 w' v' M nM (l ++ [x]) :=
  ⟨h.bel.grown hg h.bel.size (fun j hj => by have := (h.row.lt j hj).1; omega), (hg.block _ h.cell.lt (fun e => by have := (h.row.lt _ e.symm).1; omega)).trans h.cell, h.map.kept hg (fun e => by have := (h.row.lt _ e.symm).1; omega),
    by rw [List.length_append, List.length_singleton, intsNN_snoc]; exact hr⟩
theorem OrdS.set (h : OrdS w3 wr o M nM l) (he : M = M') : OrdS w3 wr o M' nM l := he ▸ h
end
theorem res_ok {h : List Opn} (hz : (resR h).1 = 0) : Well h ∧ NoReason h := by
  by_cases h0 : (chkL h).2 = 0
  · exact ⟨chk_well.1 h0, (res_zero (chk_well.1 h0)).1 hz⟩
  · rw [res_one h0] at hz; exact absurd hz (by decide)
theorem res_iff {h : List Opn} : (resR h).1 = 0 ↔ Well h ∧ NoReason h := ⟨res_ok, fun ⟨a, b⟩ => (res_zero a).2 b⟩

def SortOrd (w3 w : World) (o : Value) (l : List Nat) (h : List Opn) (lv : Nat → Int) (e : Ending) (w' : World) : Prop :=
  e = .returned (.tuple #[]) ∧ ∃ l', l'.Perm l ∧ (l'.Pairwise fun a b => ¬ keyG lv h b a) ∧ Reads vi w' o (intsNN l') ∧ Below w3.heap.size w w'
set_option maxHeartbeats 2000000 in
theorem sortord_any (hp : Nat) (hv o : Value) (h : List Opn) (M : Int → Option Int) (nM : Nat) (l : List Nat) (w3 w : World) (hS : OrdS w3 w o M nM l) (hc : w.cell? ⟨hp, 0, none⟩ = some hv) (hpl : hp < w3.heap.size) (hr : ReadsO w3 hv h) (hs : SmallH h) (hl : ∀ x ∈ l, x < h.length) (hll : l.length ≤ 1000000) :
    Calls Tryz.prog 17 #[o, .func (.func 18) #[] #[.pointer (some ⟨hp, 0, none⟩), .pointer (some ⟨w3.heap.size + 1, 0, none⟩)]] w (SortOrd w3 w o l h fun x => (M (x : Int)).getD 0) := by
  by_cases hn : o = .slice none 0 0
  · subst hn
    have h0 : l = [] := by
      rcases hS.row.2 with ⟨_, h⟩ | ⟨g, c, cur, h, _⟩
      · exact List.length_eq_zero_iff.1 h
      · cases h
    subst h0
    refine (AnyF.slices_SortFunc_none (P := Tryz.prog) (ρ := sortInts_ren) { sortInts with } none 0 _ w).mono ?_
    rintro e w' ⟨rfl, rfl⟩
    exact ⟨rfl, [], .refl _, .nil, Reads.nil _, Below.refl _ _⟩
  · by_cases h0 : h.length = 0
    · have hl0 : l = [] := by
        cases l with
        | nil => rfl
        | cons x l => have := hl x (List.mem_cons_self ..); omega
      subst hl0
      obtain ⟨oa, oc, rfl⟩ := row_slc hS.row
      refine (AnyF.slices_SortFunc_none (P := Tryz.prog) (ρ := sortInts_ren) { sortInts with } oa oc _ w).mono ?_
      rintro e w' ⟨rfl, rfl⟩
      exact ⟨rfl, [], .refl _, .nil, Reads.of_owns (enc := vi) (xs := []) hS.row, Below.refl _ _⟩
    · haveI : Inhabited (Fin h.length) := ⟨⟨0, by omega⟩⟩
      obtain ⟨D, hD⟩ : ∃ D : List (Fin h.length), D.map (fun x => x.val) = l := ⟨l.attach.map fun x => ⟨x.1, hl x.1 x.2⟩, by rw [List.map_map]; exact List.attach_map_subtype_val l⟩
      obtain ⟨enc, henc⟩ : ∃ enc : Fin h.length → Value, enc = fun x => .int .i64 ((x.val : Nat) : Int) := ⟨_, rfl⟩
      have hDl : D.length = l.length := by rw [← hD]; simp
      have hrow : w.ownsRow (w3.heap.size + 2) 3 1 o l.length (D.map enc) := by
        have h1 := hS.row
        have h2 : (intsNN l).map vi = D.map enc := by
          rw [← hD, henc]
          unfold intsNN
          rw [List.map_map, List.map_map]; rfl
        rwa [h2] at h1
      obtain ⟨g, cap, rfl, hbg, hgl, hncap, hcm, hlen, hH⟩ := Lib.holds_of_ownsRow hrow hn
      obtain ⟨cf, hcf⟩ : ∃ cf : Fin h.length → Fin h.length → Int, cf = fun x y => cfG (fun x => (M (x : Int)).getD 0) h x.val y.val := ⟨_, rfl⟩
      have hlt : ∀ x y, ltOf cf x y = decide (keyG (fun x => (M (x : Int)).getD 0) h x.val y.val) := fun x y => by
        rw [hcf]
        exact lt_key (h := h) (fun x => (M (x : Int)).getD 0) x.val y.val
      have hO : SWO (ltOf cf) := by
        refine ⟨fun x => ?_, fun x y z h1 h2 => ?_, fun x y z h1 h2 => ?_⟩
        · rw [hlt]; exact decide_eq_false fun q => keyG_asymm q q
        · rw [hlt] at *
          exact decide_eq_true (keyG_trans (of_decide_eq_true h1) (of_decide_eq_true h2))
        · rw [hlt] at *
          have a1 := of_decide_eq_false h1
          have a2 := of_decide_eq_false h2
          refine decide_eq_false fun q => ?_
          rcases keyG_tri (h := h) (fun x => (M (x : Int)).getD 0) y.val x.val with b | b | b
          · exact a2 (keyG_trans b q)
          · rw [b] at a2; exact a2 q
          · exact a1 b
      have hT : ∀ x y, ltOf cf x y = false → ltOf cf y x = false → x = y := fun x y h1 h2 => by
        rw [hlt] at h1 h2
        rcases keyG_tri (h := h) (fun x => (M (x : Int)).getD 0) x.val y.val with b | b | b
        · exact absurd b (of_decide_eq_false h1)
        · exact Fin.ext b
        · exact absurd b (of_decide_eq_false h2)
      have eg : ∀ args w, (callFunc 18 args).run Tryz.prog w = .ok (.enter 18 args) w := enters_of Tryz.func18 (by kernel_rfl) rfl
      have hbs : ∀ m (dk : Array (Fin h.length)) os, Below (w3.heap.size + 2) w (sortWorld enc w g 0 m dk os) := fun m dk os => by
        have h1 := Go.Lib.below_putRow (enc := enc) (q := m) (d := dk) (Below.refl (w3.heap.size + 2) w) hbg
        unfold sortWorld
        refine ⟨h1.os, h1.tape, h1.output, Nat.le_trans h1.size (by simp [grow]), fun i hi => ?_⟩
        rw [heap_grow_old _ _ (by rw [size_putRow]; have := hS.cell.lt; show i < w.heap.size; omega)]
        exact h1.block i hi
      have hcmp : CmpLays1 Tryz.prog 18 #[.pointer (some ⟨hp, 0, none⟩), .pointer (some ⟨w3.heap.size + 1, 0, none⟩)] enc cf g 0 D.toArray.size w := fun m os dk hsz x y => by
        have hb := hbs m dk os
        have c1 : (sortWorld enc w g 0 m dk os).cell? ⟨hp, 0, none⟩ = some hv := (hb.cell (p := ⟨hp, 0, none⟩) (by show hp < w3.heap.size + 2; omega)).trans hc
        have c2 : (sortWorld enc w g 0 m dk os).cell? ⟨w3.heap.size + 1, 0, none⟩ = some (.map (some w3.heap.size)) := (hb.cell (p := ⟨w3.heap.size + 1, 0, none⟩) (by show w3.heap.size + 1 < w3.heap.size + 2; omega)).trans (hS.cell.cell 0)
        have hM := hS.map.at_ (hb.block w3.heap.size (by omega))
        have hr2 := hr.on (hS.bel.trans (hb.mono (by omega)))
        have hq := ordclo_any hp (w3.heap.size + 1) w3.heap.size nM hv h x.val y.val M _ _ _ c1 c2 hM hr2 hs x.isLt y.isLt rfl rfl
        subst henc hcf
        refine Calls.mono hq fun e w' he => ?_
        obtain ⟨q, os', h1⟩ := he.2.grow
        exact ⟨he.1, q, os', h1⟩
      have hso := Any.slices_SortFunc_total sortInts enc (fun x => by rw [henc]; rfl) cf hO 18 #[.pointer (some ⟨hp, 0, none⟩), .pointer (some ⟨w3.heap.size + 1, 0, none⟩)] g 0 cap D.toArray w eg hcmp hH hgl (by simp; omega) hT
      have hsz1 : D.toArray.size = l.length := by simp [hDl]
      rw [hsz1] at hso
      refine hso.mono ?_
      rintro e w' ⟨rfl, m, os, rfl⟩
      obtain ⟨E, hE⟩ : ∃ E, E = D.mergeSort fun x y => !(ltOf cf) y x := ⟨_, rfl⟩
      have hEp : E.Perm D := by rw [hE]; exact List.mergeSort_perm _ _
      have hEs : E.Pairwise fun a b => (!(ltOf cf) b a) = true := by
        rw [hE]
        refine List.pairwise_mergeSort (fun a b c h1 h2 => ?_) (fun a b => ?_) D
        · rw [Bool.not_eq_true'] at *
          exact hO.ntrans _ _ _ h2 h1
        · cases h1 : ltOf cf b a with
          | false => rfl
          | true =>
            have : ltOf cf a b = false := Bool.eq_false_iff.2 fun h2 => by
              have := hO.trans _ _ _ h1 h2
              rw [hO.irrefl] at this; cases this
            rw [this]; rfl
      rw [← hE]
      have hEl : E.length = l.length := by rw [hEp.length_eq]; exact hDl
      have hh := holds_sortWorld enc w g 0 m D.toArray E.toArray os hgl hH (by simp [hEl, hDl])
      refine ⟨rfl, E.map (fun x => x.val), ?_, ?_, ?_, (hbs m _ os).mono (by omega)⟩
      · rw [← hD]; exact hEp.map _
      · rw [List.pairwise_map]
        refine hEs.imp ?_
        intro a b h1
        rw [Bool.not_eq_true', hlt] at h1
        exact of_decide_eq_false h1
      · have hl3 : (intsNN (E.map fun x => x.val)).length = l.length := by unfold intsNN; simp [hEl]
        refine ⟨some ⟨g, 0, none⟩, cap, by rw [hl3], by rw [hl3]; exact hncap, hcm, (fun e => by cases e), fun _ => ⟨g, 0, rfl, ?_, fun j hj => ?_⟩⟩
        · exact Nat.lt_of_lt_of_le hgl (hbs m _ os).size
        · have h1 := (hh j (by simp [hEl]; omega)).1
          rw [h1, getElem!_pos E.toArray j (by simp [hEl]; omega), henc]
          unfold intsNN vi
          simp
end Go.Proofs.YtjijlhjggpibjaaGreat
