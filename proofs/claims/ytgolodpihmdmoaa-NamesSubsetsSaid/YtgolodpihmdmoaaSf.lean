/-
  Chapter 02: slices.SortFunc at [][]string, by the library's contract.
-/
import Derived.Shelf.SlSortCmp.Whole1
import Derived.Ground.SlsfProg
import Derived.Test.YtgolodpihmdmoaaNs
namespace Go.Proofs.Ytgolodpihmdmoaa
open Go.Shelf Go.RowKit Go.Lib Go.Sort
def sortSets_ren : Go.Shelf.Ren := ⟨fun | 6 => 51 | 15 => 58 | 14 => 62 | 28 => 74 | 29 => 75 | 20 => 78 | 21 => 79 | 22 => 80 | 23 => 81 | 24 => 82 | 25 => 83 | 26 => 84 | 27 => 85 | 46 => 94 | 47 => 89 | 48 => 90 | 49 => 95 | 50 => 96 | 57 => 98 | n => n, fun | 22 => 43 | 24 => 24 | 25 => 42 | 3 => 3 | 39 => 71 | 0 => 0 | 53 => 86 | 55 => 88 | 4 => 4 | 46 => 78 | 45 => 77 | 50 => 83 | 5 => 5 | 9 => 9 | 66 => 99 | 70 => 103 | 76 => 107 | 77 => 108 | n => n, fun | n => n⟩
theorem sortSets : Go.Proofs.SlLaysF.n6 Try.prog sortSets_ren := {
  mixed := by kernel_rfl
  f6 := ⟨Try.f51.name, by decide, Try.func51.trans (congrArg some (by kernel_rfl))⟩
  f14 := ⟨Try.f62.name, by decide, Try.func62.trans (congrArg some (by kernel_rfl))⟩
  f15 := Try.func58.trans (congrArg some (by kernel_rfl))
  f20 := ⟨Try.f78.name, by decide, Try.func78.trans (congrArg some (by kernel_rfl))⟩
  f21 := ⟨Try.f79.name, by decide, Try.func79.trans (congrArg some (by kernel_rfl))⟩
  f22 := ⟨Try.f80.name, by decide, Try.func80.trans (congrArg some (by kernel_rfl))⟩
  f23 := ⟨Try.f81.name, by decide, Try.func81.trans (congrArg some (by kernel_rfl))⟩
  f24 := ⟨Try.f82.name, by decide, Try.func82.trans (congrArg some (by kernel_rfl))⟩
  f25 := ⟨Try.f83.name, by decide, Try.func83.trans (congrArg some (by kernel_rfl))⟩
  f26 := ⟨Try.f84.name, by decide, Try.func84.trans (congrArg some (by kernel_rfl))⟩
  f27 := ⟨Try.f85.name, by decide, Try.func85.trans (congrArg some (by kernel_rfl))⟩
  f28 := Try.func74.trans (congrArg some (by kernel_rfl))
  f29 := Try.func75.trans (congrArg some (by kernel_rfl))
  f46 := ⟨Try.f94.name, by decide, Try.func94.trans (congrArg some (by kernel_rfl))⟩
  f47 := Try.func89.trans (congrArg some (by kernel_rfl))
  f48 := Try.func90.trans (congrArg some (by kernel_rfl))
  f49 := ⟨Try.f95.name, by decide, Try.func95.trans (congrArg some (by kernel_rfl))⟩
  f50 := ⟨Try.f96.name, by decide, Try.func96.trans (congrArg some (by kernel_rfl))⟩
  f57 := ⟨Try.f98.name, by decide, Try.func98.trans (congrArg some (by kernel_rfl))⟩
  t0 := Try.underlying0
  a0 := Try.isAgg0
  z0 := Try.sizeOf0
  v0 := Try.zeroValue0
  t3 := Try.underlying3
  a3 := Try.isAgg3
  z3 := Try.sizeOf3
  v3 := Try.zeroValue3
  t4 := Try.underlying4
  a4 := Try.isAgg4
  z4 := Try.sizeOf4
  v4 := Try.zeroValue4
  t5 := Try.underlying5
  a5 := Try.isAgg5
  z5 := Try.sizeOf5
  v5 := Try.zeroValue5
  t9 := Try.underlying9
  a9 := Try.isAgg9
  z9 := Try.sizeOf9
  v9 := Try.zeroValue9
  t22 := Try.underlying43
  a22 := Try.isAgg43
  z22 := Try.sizeOf43
  v22 := Try.zeroValue43
  a24 := Try.isAgg24
  z24 := Try.sizeOf24
  t25 := Try.underlying42
  a25 := Try.isAgg42
  z25 := Try.sizeOf42
  v25 := Try.zeroValue42
  t39 := Try.underlying71
  a39 := Try.isAgg71
  z39 := Try.sizeOf71
  v39 := Try.zeroValue71
  t45 := Try.underlying77
  a45 := Try.isAgg77
  z45 := Try.sizeOf77
  v45 := Try.zeroValue77
  t46 := Try.underlying78
  a46 := Try.isAgg78
  z46 := Try.sizeOf78
  v46 := Try.zeroValue78
  t50 := Try.underlying83
  a50 := Try.isAgg83
  z50 := Try.sizeOf83
  v50 := Try.zeroValue83
  t53 := Try.underlying86
  a53 := Try.isAgg86
  z53 := Try.sizeOf86
  v53 := Try.zeroValue86
  t55 := Try.underlying88
  a55 := Try.isAgg88
  z55 := Try.sizeOf88
  v55 := Try.zeroValue88
  t66 := Try.underlying99
  a66 := Try.isAgg99
  z66 := Try.sizeOf99
  v66 := Try.zeroValue99
  t70 := Try.underlying103
  a70 := Try.isAgg103
  z70 := Try.sizeOf103
  v70 := Try.zeroValue103
  t76 := Try.underlying107
  a76 := Try.isAgg107
  z76 := Try.sizeOf107
  v76 := Try.zeroValue107
  t77 := Try.underlying108
  a77 := Try.isAgg108
  z77 := Try.sizeOf108
  v77 := Try.zeroValue108 }

/-- The compare, at any two strings' lists that read in every world the sort passes through. -/
theorem sort_any {α : Type} [Inhabited α] (enc : α → Value) (S : α → List Str) (hone : OneCell enc) (hO : SWO (ltOf fun x y => cmpL (S x) (S y))) (blk off cap : Nat) (d : Array α) (w : World)
    (hread : ∀ (m : Nat) (os : Array Obj) (dk : Array α), dk.size = d.size → ∀ x, Reads vs (sortWorld enc w blk off m dk os) (enc x) (S x))
    (hH : Holds enc w blk off d) (hblk : blk < w.heap.size) (hsz : d.size < 4611686018427387904) :
    Calls Try.prog 51 #[.slice (some ⟨blk, off, none⟩) d.size cap, .func (.func 50) #[] #[]] w fun e w' =>
      e = .returned (.tuple #[]) ∧ ∃ d' n os, PermIn 0 d.size d d' ∧ SortedIn (ltOf fun x y => cmpL (S x) (S y)) 0 d.size d' ∧ w' = sortWorld enc w blk off n d' os := by
  have eg : ∀ args w, (callFunc 50 args).run Try.prog w = .ok (.enter 50 args) w := enters_of Try.func50 (by kernel_rfl) rfl
  have hcmp : CmpLays1 Try.prog 50 #[] enc (fun x y => cmpL (S x) (S y)) blk off d.size w := fun m os dk hs x y =>
    (cmpset_any (enc x) (enc y) (S x) (S y) _ (hread m os dk hs x) (hread m os dk hs y)).mono fun _ _ ⟨he, hw⟩ => ⟨he, 0, #[], by subst hw; rw [grow_empty]; rfl⟩
  exact Any.slices_SortFunc sortSets enc hone (fun x y => cmpL (S x) (S y)) hO 50 #[] blk off cap d w eg hcmp hH hblk hsz
end Go.Proofs.Ytgolodpihmdmoaa
