/-
  Chapter 54: slices.SortedFunc at []int.
-/
import Derived.Shelf.SlSortCmp.NoneTotal
import Derived.Ground.SlsfProg
import Derived.Test.YtnpfalloelmflaaHv
import Derived.Test.YtnpfalloelmflaaShelf
namespace Go.Proofs.Ytnpfalloelmflaa
open Go.Shelf Go.RowKit Go.Lib Go.Sort
def sortInts_ren : Go.Shelf.Ren := ⟨fun | 6 => 56 | 15 => 63 | 14 => 62 | 28 => 73 | 29 => 74 | 20 => 65 | 21 => 66 | 22 => 67 | 23 => 68 | 24 => 69 | 25 => 70 | 26 => 71 | 27 => 72 | 46 => 84 | 47 => 85 | 48 => 86 | 49 => 87 | 50 => 88 | 57 => 93 | n => n, fun | 22 => 37 | 24 => 3 | 25 => 65 | 3 => 3 | 39 => 76 | 0 => 0 | 53 => 87 | 55 => 89 | 4 => 4 | 46 => 80 | 45 => 79 | 50 => 84 | 5 => 5 | 9 => 9 | 66 => 96 | 70 => 100 | 76 => 104 | 77 => 105 | n => n, fun | n => n⟩
theorem sortInts : Go.Proofs.SlLaysF.n6 Try.prog sortInts_ren := {
  mixed := by kernel_rfl
  f6 := ⟨Try.f56.name, by decide, Try.func56.trans (congrArg some (by kernel_rfl))⟩
  f14 := ⟨Try.f62.name, by decide, Try.func62.trans (congrArg some (by kernel_rfl))⟩
  f15 := Try.func63.trans (congrArg some (by kernel_rfl))
  f20 := ⟨Try.f65.name, by decide, Try.func65.trans (congrArg some (by kernel_rfl))⟩
  f21 := ⟨Try.f66.name, by decide, Try.func66.trans (congrArg some (by kernel_rfl))⟩
  f22 := ⟨Try.f67.name, by decide, Try.func67.trans (congrArg some (by kernel_rfl))⟩
  f23 := ⟨Try.f68.name, by decide, Try.func68.trans (congrArg some (by kernel_rfl))⟩
  f24 := ⟨Try.f69.name, by decide, Try.func69.trans (congrArg some (by kernel_rfl))⟩
  f25 := ⟨Try.f70.name, by decide, Try.func70.trans (congrArg some (by kernel_rfl))⟩
  f26 := ⟨Try.f71.name, by decide, Try.func71.trans (congrArg some (by kernel_rfl))⟩
  f27 := ⟨Try.f72.name, by decide, Try.func72.trans (congrArg some (by kernel_rfl))⟩
  f28 := Try.func73.trans (congrArg some (by kernel_rfl))
  f29 := Try.func74.trans (congrArg some (by kernel_rfl))
  f46 := ⟨Try.f84.name, by decide, Try.func84.trans (congrArg some (by kernel_rfl))⟩
  f47 := Try.func85.trans (congrArg some (by kernel_rfl))
  f48 := Try.func86.trans (congrArg some (by kernel_rfl))
  f49 := ⟨Try.f87.name, by decide, Try.func87.trans (congrArg some (by kernel_rfl))⟩
  f50 := ⟨Try.f88.name, by decide, Try.func88.trans (congrArg some (by kernel_rfl))⟩
  f57 := ⟨Try.f93.name, by decide, Try.func93.trans (congrArg some (by kernel_rfl))⟩
  t0 := Try.underlying0
  a0 := Try.isAgg0
  z0 := Try.sizeOf0
  v0 := Try.zeroValue0
  t3 := Try.underlying3
  a3 := Try.isAgg3
  z3 := Try.sizeOf3
  v3 := Try.zeroValue3
  t4 := Try.underlying4
  a4 := Try.isAgg4
  z4 := Try.sizeOf4
  v4 := Try.zeroValue4
  t5 := Try.underlying5
  a5 := Try.isAgg5
  z5 := Try.sizeOf5
  v5 := Try.zeroValue5
  t9 := Try.underlying9
  a9 := Try.isAgg9
  z9 := Try.sizeOf9
  v9 := Try.zeroValue9
  t22 := Try.underlying37
  a22 := Try.isAgg37
  z22 := Try.sizeOf37
  v22 := Try.zeroValue37
  a24 := Try.isAgg3
  z24 := Try.sizeOf3
  t25 := Try.underlying65
  a25 := Try.isAgg65
  z25 := Try.sizeOf65
  v25 := Try.zeroValue65
  t39 := Try.underlying76
  a39 := Try.isAgg76
  z39 := Try.sizeOf76
  v39 := Try.zeroValue76
  t45 := Try.underlying79
  a45 := Try.isAgg79
  z45 := Try.sizeOf79
  v45 := Try.zeroValue79
  t46 := Try.underlying80
  a46 := Try.isAgg80
  z46 := Try.sizeOf80
  v46 := Try.zeroValue80
  t50 := Try.underlying84
  a50 := Try.isAgg84
  z50 := Try.sizeOf84
  v50 := Try.zeroValue84
  t53 := Try.underlying87
  a53 := Try.isAgg87
  z53 := Try.sizeOf87
  v53 := Try.zeroValue87
  t55 := Try.underlying89
  a55 := Try.isAgg89
  z55 := Try.sizeOf89
  v55 := Try.zeroValue89
  t66 := Try.underlying96
  a66 := Try.isAgg96
  z66 := Try.sizeOf96
  v66 := Try.zeroValue96
  t70 := Try.underlying100
  a70 := Try.isAgg100
  z70 := Try.sizeOf100
  v70 := Try.zeroValue100
  t76 := Try.underlying104
  a76 := Try.isAgg104
  z76 := Try.sizeOf104
  v76 := Try.zeroValue104
  t77 := Try.underlying105
  a77 := Try.isAgg105
  z77 := Try.sizeOf105
  v77 := Try.zeroValue105 }

theorem ltC (x y : Int) : ltOf Lib.compareInt x y = decide (x < y) := by
  unfold ltOf Lib.compareInt
  refine decide_eq_decide.2 ?_
  split
  · omega
  · split <;> omega
theorem swoC : SWO (ltOf Lib.compareInt) where
  irrefl x := by rw [ltC]; simp
  trans x y z h1 h2 := by rw [ltC] at *; simp at *; omega
  ntrans x y z h1 h2 := by rw [ltC] at *; simp at *; omega
theorem sort_any (blk off cap : Nat) (d : Array Int) (w : World) (hH : Holds (Value.int .i64) w blk off d) (hblk : blk < w.heap.size) (hsz : d.size < 4611686018427387904) :
    Calls Try.prog 56 #[.slice (some ⟨blk, off, none⟩) d.size cap, .func (.func 47) #[] #[]] w fun e w' =>
      e = .returned (.tuple #[]) ∧ ∃ d' n os, PermIn 0 d.size d d' ∧ SortedIn (ltOf Lib.compareInt) 0 d.size d' ∧ w' = sortWorld (Value.int .i64) w blk off n d' os := by
  have eg : ∀ args w, (callFunc 47 args).run Try.prog w = .ok (.enter 47 args) w := enters_of Try.func47 (by kernel_rfl) rfl
  have hcmp : CmpLays1 Try.prog 47 #[] (Value.int .i64) Lib.compareInt blk off d.size w := fun m os dk hs x y =>
    (Try.cmp_Compare_int x y _).mono fun _ _ ⟨he, hw⟩ => ⟨he, 0, #[], by subst hw; rw [grow_empty]; rfl⟩
  exact Any.slices_SortFunc sortInts (Value.int .i64) (fun _ => rfl) Lib.compareInt swoC 47 #[] blk off cap d w eg hcmp hH hblk hsz
theorem below_sort {α : Type} [Inhabited α] {enc : α → Value} {B : Nat} {w0 w : World} {g m : Nat} {dk : Array α} {os : Array Obj} (h : RowKit.Below B w0 w) (hg : B ≤ g) (hg2 : g < w.heap.size) : RowKit.Below B w0 (sortWorld enc w g 0 m dk os) := by
  have h1 := Go.Lib.below_putRow (enc := enc) (q := m) (d := dk) h hg
  unfold sortWorld
  refine ⟨h1.os, h1.tape, h1.output, Nat.le_trans h1.size (by simp [grow]), fun i hi => ?_⟩
  rw [heap_grow_old _ _ (by rw [size_putRow]; show i < w.heap.size; omega)]
  exact h1.block i hi
/-- Sorted: a permutation that ascends. -/
def SortedMade (w : World) (zs : List Int) (e : Ending) (w' : World) : Prop := ∃ v ys, e = .returned v ∧ Reads (Value.int .i64) w' v ys ∧ ys.Perm zs ∧ ys.Pairwise (· ≤ ·) ∧ RowKit.Below w.heap.size w w'
theorem sorted_of {zs : List Int} {d' : Array Int} (hp : PermIn 0 zs.toArray.size zs.toArray d') (hs : SortedIn (ltOf Lib.compareInt) 0 zs.toArray.size d') : d'.toList.Perm zs ∧ d'.toList.Pairwise (· ≤ ·) := by
  obtain ⟨h1, _, h3⟩ := hp
  have e1 : (d'.extract 0 zs.toArray.size) = d' := by rw [← h1]; simp
  have e2 : (zs.toArray.extract 0 zs.toArray.size) = zs.toArray := by simp
  rw [e1, e2] at h3
  refine ⟨by simpa using h3, ?_⟩
  rw [List.pairwise_iff_getElem]
  intro i j hi hj hij
  have h4 := hs i j (Nat.zero_le _) hij (by rw [← h1]; simpa using hj)
  rw [ltC] at h4
  have hi' : i < d'.size := by simpa using hi
  have hj' : j < d'.size := by simpa using hj
  rw [getElem!_pos d' i hi', getElem!_pos d' j hj'] at h4
  simp only [Array.getElem_toList]
  have := of_decide_eq_false h4
  omega
set_option maxHeartbeats 2000000 in
theorem sortedFunc_any (sv : Value) (zs : List Int) (Bs : Nat) (w : World) (hz : zs.length ≤ 1000000) (hBs : Bs < w.heap.size) (hc : w.cell? ⟨Bs, 0, none⟩ = some sv) (hI : Ints w.heap.size w sv zs) :
    Calls Try.prog 45 #[.func (.func 57) #[] #[.pointer (some ⟨Bs, 0, none⟩)], .func (.func 47) #[] #[]] w (SortedMade w zs) := by
  have HC := Lib.hid (collect_any sv zs Bs w hz hBs hc hI)
  clear hc hI
  go_enter Try.func45, Try.ntmps45
  go_wp2_with fail
  refine HC.out.mono ?_
  rintro e w1 ⟨v, rfl, hown, hb⟩
  by_cases hn : v = .slice none 0 0
  · subst hn
    have h0 : zs = [] := by
      rcases hown.2 with ⟨_, h⟩ | ⟨g, c, cur, h, _⟩
      · exact List.length_eq_zero_iff.1 h
      · cases h
    have HB := Lib.hid hb
    have HS := Lib.hid (AnyF.slices_SortFunc_none (P := Try.prog) (ρ := sortInts_ren) { sortInts with } none 0 (.func (.func 47) #[] #[]) w1)
    clear hown hb
    go_wp2_with fail
    refine HS.out.mono ?_
    rintro e w2 ⟨rfl, rfl⟩
    go_wp2
    go_ret
    exact ⟨_, [], rfl, Reads.nil _, by rw [h0], by simp, HB.out⟩
  · obtain ⟨g, cap, rfl, hbg, hgl, hncap, hcm, hlen, hH⟩ := Lib.holds_of_ownsRow hown hn
    have HB := Lib.hid hb
    have hso := sort_any g 0 cap zs.toArray w1 hH hgl (by simp; omega)
    rw [List.size_toArray] at hso
    have HS := Lib.hid hso
    have HH := Lib.hid hH
    clear hso hown hb hH
    go_wp2_with fail
    refine HS.out.mono ?_
    rintro e w2 ⟨rfl, d', m, os, hp, hsr, hw2⟩
    have hpp := sorted_of (zs := zs) (by simpa using hp) (by simpa using hsr)
    have hsz : d'.size = zs.toArray.size := by have := hp.1; simpa using this
    have hh := holds_sortWorld (Value.int .i64) w1 g 0 m _ d' os hgl HH.out hsz
    have hrd : Reads (Value.int .i64) w2 (.slice (some ⟨g, 0, none⟩) zs.length cap) d'.toList := by
      have hl : d'.toList.length = zs.length := by simpa using hsz
      refine ⟨some ⟨g, 0, none⟩, cap, by rw [hl], by rw [hl]; exact hncap, hcm, (fun e => by cases e), fun _ => ⟨g, 0, rfl, ?_, fun j hj => ?_⟩⟩
      · rw [hw2]
        have := (below_sort (enc := Value.int .i64) (m := m) (dk := d') (os := os) HB.out hbg hgl).size
        unfold sortWorld
        simp only [grow, Array.size_append, size_putRow]
        show g < w1.heap.size + _
        omega
      · have h1 := (hh j (by omega)).1
        rw [hw2, h1]
        rw [getElem!_pos d' j (by simpa using hj)]
        simp
    have hbl : RowKit.Below w.heap.size w w2 := by rw [hw2]; exact below_sort HB.out hbg hgl
    have HE := Lib.hid (And.intro hrd (And.intro hpp hbl))
    clear hw2 hp hsr hpp hsz hh hrd hbl
    go_wp2
    go_ret
    exact ⟨_, _, rfl, HE.out.1, HE.out.2.1.1, HE.out.2.1.2, HE.out.2.2⟩
end Go.Proofs.Ytnpfalloelmflaa
