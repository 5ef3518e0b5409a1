/-
  Chapter 55: the state of Order, and its sort.
-/
import Derived.Shelf.SlSortCmp.NoneTotal
import Derived.Ground.SlsfProg
import Derived.Test.YtjijlhjggpibjaaGf
import Derived.Test.YtjijlhjggpibjaaGd
import Derived.Test.YtjijlhjggpibjaaKe
namespace Go.Proofs.Ytjijlhjggpibjaa
open Go.Shelf Go.RowKit Go.Lib Go.Sort Go.Maps
def sortInts_ren : Go.Shelf.Ren := ⟨fun | 6 => 46 | 15 => 71 | 14 => 70 | 28 => 96 | 29 => 97 | 20 => 88 | 21 => 89 | 22 => 90 | 23 => 91 | 24 => 92 | 25 => 93 | 26 => 94 | 27 => 95 | 46 => 104 | 47 => 105 | 48 => 106 | 49 => 107 | 50 => 108 | 57 => 121 | n => n, fun | 22 => 25 | 24 => 3 | 25 => 56 | 3 => 3 | 39 => 76 | 0 => 0 | 53 => 93 | 55 => 95 | 4 => 4 | 46 => 87 | 45 => 86 | 50 => 53 | 5 => 5 | 9 => 9 | 66 => 99 | 70 => 103 | 76 => 114 | 77 => 115 | n => n, fun | n => n⟩
theorem sortInts : Go.Proofs.SlLaysF.n6 Try.prog sortInts_ren := {
  mixed := by kernel_rfl
  f6 := ⟨Try.f46.name, by decide, Try.func46.trans (congrArg some (by kernel_rfl))⟩
  f14 := ⟨Try.f70.name, by decide, Try.func70.trans (congrArg some (by kernel_rfl))⟩
  f15 := Try.func71.trans (congrArg some (by kernel_rfl))
  f20 := ⟨Try.f88.name, by decide, Try.func88.trans (congrArg some (by kernel_rfl))⟩
  f21 := ⟨Try.f89.name, by decide, Try.func89.trans (congrArg some (by kernel_rfl))⟩
  f22 := ⟨Try.f90.name, by decide, Try.func90.trans (congrArg some (by kernel_rfl))⟩
  f23 := ⟨Try.f91.name, by decide, Try.func91.trans (congrArg some (by kernel_rfl))⟩
  f24 := ⟨Try.f92.name, by decide, Try.func92.trans (congrArg some (by kernel_rfl))⟩
  f25 := ⟨Try.f93.name, by decide, Try.func93.trans (congrArg some (by kernel_rfl))⟩
  f26 := ⟨Try.f94.name, by decide, Try.func94.trans (congrArg some (by kernel_rfl))⟩
  f27 := ⟨Try.f95.name, by decide, Try.func95.trans (congrArg some (by kernel_rfl))⟩
  f28 := Try.func96.trans (congrArg some (by kernel_rfl))
  f29 := Try.func97.trans (congrArg some (by kernel_rfl))
  f46 := ⟨Try.f104.name, by decide, Try.func104.trans (congrArg some (by kernel_rfl))⟩
  f47 := Try.func105.trans (congrArg some (by kernel_rfl))
  f48 := Try.func106.trans (congrArg some (by kernel_rfl))
  f49 := ⟨Try.f107.name, by decide, Try.func107.trans (congrArg some (by kernel_rfl))⟩
  f50 := ⟨Try.f108.name, by decide, Try.func108.trans (congrArg some (by kernel_rfl))⟩
  f57 := ⟨Try.f121.name, by decide, Try.func121.trans (congrArg some (by kernel_rfl))⟩
  t0 := Try.underlying0
  a0 := Try.isAgg0
  z0 := Try.sizeOf0
  v0 := Try.zeroValue0
  t3 := Try.underlying3
  a3 := Try.isAgg3
  z3 := Try.sizeOf3
  v3 := Try.zeroValue3
  t4 := Try.underlying4
  a4 := Try.isAgg4
  z4 := Try.sizeOf4
  v4 := Try.zeroValue4
  t5 := Try.underlying5
  a5 := Try.isAgg5
  z5 := Try.sizeOf5
  v5 := Try.zeroValue5
  t9 := Try.underlying9
  a9 := Try.isAgg9
  z9 := Try.sizeOf9
  v9 := Try.zeroValue9
  t22 := Try.underlying25
  a22 := Try.isAgg25
  z22 := Try.sizeOf25
  v22 := Try.zeroValue25
  a24 := Try.isAgg3
  z24 := Try.sizeOf3
  t25 := Try.underlying56
  a25 := Try.isAgg56
  z25 := Try.sizeOf56
  v25 := Try.zeroValue56
  t39 := Try.underlying76
  a39 := Try.isAgg76
  z39 := Try.sizeOf76
  v39 := Try.zeroValue76
  t45 := Try.underlying86
  a45 := Try.isAgg86
  z45 := Try.sizeOf86
  v45 := Try.zeroValue86
  t46 := Try.underlying87
  a46 := Try.isAgg87
  z46 := Try.sizeOf87
  v46 := Try.zeroValue87
  t50 := Try.underlying53
  a50 := Try.isAgg53
  z50 := Try.sizeOf53
  v50 := Try.zeroValue53
  t53 := Try.underlying93
  a53 := Try.isAgg93
  z53 := Try.sizeOf93
  v53 := Try.zeroValue93
  t55 := Try.underlying95
  a55 := Try.isAgg95
  z55 := Try.sizeOf95
  v55 := Try.zeroValue95
  t66 := Try.underlying99
  a66 := Try.isAgg99
  z66 := Try.sizeOf99
  v66 := Try.zeroValue99
  t70 := Try.underlying103
  a70 := Try.isAgg103
  z70 := Try.sizeOf103
  v70 := Try.zeroValue103
  t76 := Try.underlying114
  a76 := Try.isAgg114
  z76 := Try.sizeOf114
  v76 := Try.zeroValue114
  t77 := Try.underlying115
  a77 := Try.isAgg115
  z77 := Try.sizeOf115
  v77 := Try.zeroValue115 }

/-- Levels as a map: of the indices of a list. -/
def finM (l : List Nat) (lv : Nat → Int) : Int → Option Int := fun s => if 0 ≤ s ∧ s.toNat ∈ l then some (lv s.toNat) else none
theorem finM_nil (lv : Nat → Int) : finM [] lv = fun _ => none := by
  funext s
  unfold finM
  rw [if_neg (by simp)]
theorem finM_at {l : List Nat} {lv : Nat → Int} {r : Nat} (h : r ∈ l) : finM l lv (r : Int) = some (lv r) := by
  unfold finM
  rw [if_pos ⟨by omega, by simpa using h⟩]; simp
theorem finM_snoc (l : List Nat) (lv : Nat → Int) (r : Nat) : updM (finM l lv) (r : Int) (lv r) = finM (l ++ [r]) lv := by
  funext s
  unfold updM
  by_cases h : s = (r : Int)
  · subst h
    rw [if_pos rfl, finM_at (by simp)]
  · rw [if_neg h]
    unfold finM
    by_cases h2 : 0 ≤ s ∧ s.toNat ∈ l
    · rw [if_pos h2, if_pos ⟨h2.1, List.mem_append_left _ h2.2⟩]
    · rw [if_neg h2, if_neg]
      rintro ⟨h3, h4⟩
      rcases List.mem_append.1 h4 with h5 | h5
      · exact h2 ⟨h3, h5⟩
      · have := List.mem_singleton.1 h5; omega
theorem updM_twice (M : Int → Option Int) (s a b : Int) : updM (updM M s a) s b = updM M s b := by
  funext x
  unfold updM
  split <;> rfl
def putO (M : Int → Option Int) (s : Int) : Option Nat → Int → Option Int
  | none => M
  | some k => updM M s (k : Int)
theorem putO_put (M : Int → Option Int) (s : Int) (q : Option Nat) (k : Nat) : updM (putO M s q) s (k : Int) = putO M s (some k) := by
  cases q with
  | none => rfl
  | some j => exact updM_twice M s _ _
theorem minL_snoc (l : List Nat) (x b : Nat) : minL (l ++ [x]) b = min (minL l b) x := by
  induction l with
  | nil => simp only [List.nil_append, minL]; omega
  | cons a l ih => simp only [List.cons_append, minL, ih]; omega
/-- Behind the view (world w3): the levels, a cell that holds them, and a row of indices. -/
structure OrdS (w3 wr : World) (o : Value) (M : Int → Option Int) (nM : Nat) (l : List Nat) : Prop where
  bel : Below w3.heap.size w3 wr
  cell : Blk wr (w3.heap.size + 1) 58 #[.map (some w3.heap.size)]
  map : MapAt plcT wr w3.heap.size nM M
  row : wr.ownsRow (w3.heap.size + 2) 3 1 o l.length ((intsNN l).map vi)
section
variable {w3 wr w' : World} {o v' : Value} {M M' : Int → Option Int} {nM nM' : Nat} {l : List Nat}
theorem OrdS.on (h : OrdS w3 wr o M nM l) (hb : Below wr.heap.size wr w') : OrdS w3 w' o M nM l :=
  ⟨h.bel.trans (hb.mono h.bel.size), h.cell.on hb, h.map.on hb, below_row h.row hb⟩
theorem OrdS.put (h : OrdS w3 wr o M nM l) (hm : MapAt plcT w' w3.heap.size nM' M') (hg : wr.grownBy w' (some w3.heap.size)) : OrdS w3 w' o M' nM' l :=
  ⟨h.bel.grown hg h.bel.size (fun j hj => by injection hj with hj; omega), (hg.block _ h.cell.lt (fun e => by injection e with e; omega)).trans h.cell, hm, h.row.kept hg (.inr fun e => by have := (h.row.lt _ e).1; omega)⟩
theorem OrdS.more (h : OrdS w3 wr o M nM l) {x : Nat} (hr : w'.ownsRow (w3.heap.size + 2) 3 1 v' (l.length + 1) ((intsNN l ++ [(x : Int)]).map vi)) (hg : wr.grownBy w' o.ownBlock) : OrdS w3 w' v' M nM (l ++ [x]) :=
  ⟨h.bel.grown hg h.bel.size (fun j hj => by have := (h.row.lt j hj).1; omega), (hg.block _ h.cell.lt (fun e => by have := (h.row.lt _ e.symm).1; omega)).trans h.cell, h.map.kept hg (fun e => by have := (h.row.lt _ e.symm).1; omega),
    by rw [List.length_append, List.length_singleton, intsNN_snoc]; exact hr⟩
theorem OrdS.set (h : OrdS w3 wr o M nM l) (he : M = M') : OrdS w3 wr o M' nM l := he ▸ h
end
theorem res_ok {h : List Opn} (hz : (resR h).1 = 0) : Well h ∧ NoReason h := by
  by_cases h0 : (chkL h).2 = 0
  · exact ⟨chk_well.1 h0, (res_zero (chk_well.1 h0)).1 hz⟩
  · rw [res_one h0] at hz; exact absurd hz (by decide)
theorem res_iff {h : List Opn} : (resR h).1 = 0 ↔ Well h ∧ NoReason h := ⟨res_ok, fun ⟨a, b⟩ => (res_zero a).2 b⟩

def SortOrd (w3 w : World) (o : Value) (l : List Nat) (h : List Opn) (lv : Nat → Int) (e : Ending) (w' : World) : Prop :=
  e = .returned (.tuple #[]) ∧ ∃ l', l'.Perm l ∧ (l'.Pairwise fun a b => ¬ keyG lv h b a) ∧ Reads vi w' o (intsNN l') ∧ Below w3.heap.size w w'
set_option maxHeartbeats 2000000 in
theorem sortord_any (hp : Nat) (hv o : Value) (h : List Opn) (M : Int → Option Int) (nM : Nat) (l : List Nat) (w3 w : World) (hS : OrdS w3 w o M nM l) (hc : w.cell? ⟨hp, 0, none⟩ = some hv) (hpl : hp < w3.heap.size) (hr : ReadsO w3 hv h) (hs : SmallH h) (hl : ∀ x ∈ l, x < h.length) (hll : l.length ≤ 1000000) :
    Calls Try.prog 46 #[o, .func (.func 47) #[] #[.pointer (some ⟨hp, 0, none⟩), .pointer (some ⟨w3.heap.size + 1, 0, none⟩)]] w (SortOrd w3 w o l h fun x => (M (x : Int)).getD 0) := by
  by_cases hn : o = .slice none 0 0
  · subst hn
    have h0 : l = [] := by
      rcases hS.row.2 with ⟨_, h⟩ | ⟨g, c, cur, h, _⟩
      · exact List.length_eq_zero_iff.1 h
      · cases h
    subst h0
    refine (AnyF.slices_SortFunc_none (P := Try.prog) (ρ := sortInts_ren) { sortInts with } none 0 _ w).mono ?_
    rintro e w' ⟨rfl, rfl⟩
    exact ⟨rfl, [], .refl _, .nil, Reads.nil _, Below.refl _ _⟩
  · by_cases h0 : h.length = 0
    · have hl0 : l = [] := by
        cases l with
        | nil => rfl
        | cons x l => have := hl x (List.mem_cons_self ..); omega
      subst hl0
      obtain ⟨oa, oc, rfl⟩ := row_slc hS.row
      refine (AnyF.slices_SortFunc_none (P := Try.prog) (ρ := sortInts_ren) { sortInts with } oa oc _ w).mono ?_
      rintro e w' ⟨rfl, rfl⟩
      exact ⟨rfl, [], .refl _, .nil, Reads.of_owns (enc := vi) (xs := []) hS.row, Below.refl _ _⟩
    · haveI : Inhabited (Fin h.length) := ⟨⟨0, by omega⟩⟩
      obtain ⟨D, hD⟩ : ∃ D : List (Fin h.length), D.map (fun x => x.val) = l := ⟨l.attach.map fun x => ⟨x.1, hl x.1 x.2⟩, by rw [List.map_map]; exact List.attach_map_subtype_val l⟩
      obtain ⟨enc, henc⟩ : ∃ enc : Fin h.length → Value, enc = fun x => .int .i64 ((x.val : Nat) : Int) := ⟨_, rfl⟩
      have hDl : D.length = l.length := by rw [← hD]; simp
      have hrow : w.ownsRow (w3.heap.size + 2) 3 1 o l.length (D.map enc) := by
        have h1 := hS.row
        have h2 : (intsNN l).map vi = D.map enc := by
          rw [← hD, henc]
          unfold intsNN
          rw [List.map_map, List.map_map]; rfl
        rwa [h2] at h1
      obtain ⟨g, cap, rfl, hbg, hgl, hncap, hcm, hlen, hH⟩ := Lib.holds_of_ownsRow hrow hn
      obtain ⟨cf, hcf⟩ : ∃ cf : Fin h.length → Fin h.length → Int, cf = fun x y => cfG (fun x => (M (x : Int)).getD 0) h x.val y.val := ⟨_, rfl⟩
      have hlt : ∀ x y, ltOf cf x y = decide (keyG (fun x => (M (x : Int)).getD 0) h x.val y.val) := fun x y => by
        rw [hcf]
        exact lt_key (h := h) (fun x => (M (x : Int)).getD 0) x.val y.val
      have hO : SWO (ltOf cf) := by
        refine ⟨fun x => ?_, fun x y z h1 h2 => ?_, fun x y z h1 h2 => ?_⟩
        · rw [hlt]; exact decide_eq_false fun q => keyG_asymm q q
        · rw [hlt] at *
          exact decide_eq_true (keyG_trans (of_decide_eq_true h1) (of_decide_eq_true h2))
        · rw [hlt] at *
          have a1 := of_decide_eq_false h1
          have a2 := of_decide_eq_false h2
          refine decide_eq_false fun q => ?_
          rcases keyG_tri (h := h) (fun x => (M (x : Int)).getD 0) y.val x.val with b | b | b
          · exact a2 (keyG_trans b q)
          · rw [b] at a2; exact a2 q
          · exact a1 b
      have hT : ∀ x y, ltOf cf x y = false → ltOf cf y x = false → x = y := fun x y h1 h2 => by
        rw [hlt] at h1 h2
        rcases keyG_tri (h := h) (fun x => (M (x : Int)).getD 0) x.val y.val with b | b | b
        · exact absurd b (of_decide_eq_false h1)
        · exact Fin.ext b
        · exact absurd b (of_decide_eq_false h2)
      have eg : ∀ args w, (callFunc 47 args).run Try.prog w = .ok (.enter 47 args) w := enters_of Try.func47 (by kernel_rfl) rfl
      have hbs : ∀ m (dk : Array (Fin h.length)) os, Below (w3.heap.size + 2) w (sortWorld enc w g 0 m dk os) := fun m dk os => by
        have h1 := Go.Lib.below_putRow (enc := enc) (q := m) (d := dk) (Below.refl (w3.heap.size + 2) w) hbg
        unfold sortWorld
        refine ⟨h1.os, h1.tape, h1.output, Nat.le_trans h1.size (by simp [grow]), fun i hi => ?_⟩
        rw [heap_grow_old _ _ (by rw [size_putRow]; have := hS.cell.lt; show i < w.heap.size; omega)]
        exact h1.block i hi
      have hcmp : CmpLays1 Try.prog 47 #[.pointer (some ⟨hp, 0, none⟩), .pointer (some ⟨w3.heap.size + 1, 0, none⟩)] enc cf g 0 D.toArray.size w := fun m os dk hsz x y => by
        have hb := hbs m dk os
        have c1 : (sortWorld enc w g 0 m dk os).cell? ⟨hp, 0, none⟩ = some hv := (hb.cell (p := ⟨hp, 0, none⟩) (by show hp < w3.heap.size + 2; omega)).trans hc
        have c2 : (sortWorld enc w g 0 m dk os).cell? ⟨w3.heap.size + 1, 0, none⟩ = some (.map (some w3.heap.size)) := (hb.cell (p := ⟨w3.heap.size + 1, 0, none⟩) (by show w3.heap.size + 1 < w3.heap.size + 2; omega)).trans (hS.cell.cell 0)
        have hM := hS.map.at_ (hb.block w3.heap.size (by omega))
        have hr2 := hr.on (hS.bel.trans (hb.mono (by omega)))
        have hq := ordclo_any hp (w3.heap.size + 1) w3.heap.size nM hv h x.val y.val M _ _ _ c1 c2 hM hr2 hs x.isLt y.isLt rfl rfl
        subst henc hcf
        refine Calls.mono hq fun e w' he => ?_
        obtain ⟨q, os', h1⟩ := he.2.grow
        exact ⟨he.1, q, os', h1⟩
      have hso := Any.slices_SortFunc_total sortInts enc (fun x => by rw [henc]; rfl) cf hO 47 #[.pointer (some ⟨hp, 0, none⟩), .pointer (some ⟨w3.heap.size + 1, 0, none⟩)] g 0 cap D.toArray w eg hcmp hH hgl (by simp; omega) hT
      have hsz1 : D.toArray.size = l.length := by simp [hDl]
      rw [hsz1] at hso
      refine hso.mono ?_
      rintro e w' ⟨rfl, m, os, rfl⟩
      obtain ⟨E, hE⟩ : ∃ E, E = D.mergeSort fun x y => !(ltOf cf) y x := ⟨_, rfl⟩
      have hEp : E.Perm D := by rw [hE]; exact List.mergeSort_perm _ _
      have hEs : E.Pairwise fun a b => (!(ltOf cf) b a) = true := by
        rw [hE]
        refine List.pairwise_mergeSort (fun a b c h1 h2 => ?_) (fun a b => ?_) D
        · rw [Bool.not_eq_true'] at *
          exact hO.ntrans _ _ _ h2 h1
        · cases h1 : ltOf cf b a with
          | false => rfl
          | true =>
            have : ltOf cf a b = false := Bool.eq_false_iff.2 fun h2 => by
              have := hO.trans _ _ _ h1 h2
              rw [hO.irrefl] at this; cases this
            rw [this]; rfl
      rw [← hE]
      have hEl : E.length = l.length := by rw [hEp.length_eq]; exact hDl
      have hh := holds_sortWorld enc w g 0 m D.toArray E.toArray os hgl hH (by simp [hEl, hDl])
      refine ⟨rfl, E.map (fun x => x.val), ?_, ?_, ?_, (hbs m _ os).mono (by omega)⟩
      · rw [← hD]; exact hEp.map _
      · rw [List.pairwise_map]
        refine hEs.imp ?_
        intro a b h1
        rw [Bool.not_eq_true', hlt] at h1
        exact of_decide_eq_false h1
      · have hl3 : (intsNN (E.map fun x => x.val)).length = l.length := by unfold intsNN; simp [hEl]
        refine ⟨some ⟨g, 0, none⟩, cap, by rw [hl3], by rw [hl3]; exact hncap, hcm, (fun e => by cases e), fun _ => ⟨g, 0, rfl, ?_, fun j hj => ?_⟩⟩
        · exact Nat.lt_of_lt_of_le hgl (hbs m _ os).size
        · have h1 := (hh j (by simp [hEl]; omega)).1
          rw [h1, getElem!_pos E.toArray j (by simp [hEl]; omega), henc]
          unfold intsNN vi
          simp
end Go.Proofs.Ytjijlhjggpibjaa
