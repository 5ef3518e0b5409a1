/-
  Chapter 02: slices.SortFunc at [][]string, by the library's contract.
-/
import Derived.Shelf.SlSortCmp.Whole1
import Derived.Shelf.Lay
import Derived.Ground.SlsfProg
import Derived.Test.YtgolodpihmdmoaaNs
namespace Go.Proofs.Ytgolodpihmdmoaa
open Go.Shelf Go.RowKit Go.Lib Go.Sort
shelf_lay_g SlLaysF.n6 Slsf 6 at Try 51 as sortSets

/-- The compare, at any two strings' lists that read in every world the sort passes through. -/
theorem sort_any {α : Type} [Inhabited α] (enc : α → Value) (S : α → List Str) (hone : OneCell enc) (hO : SWO (ltOf fun x y => cmpL (S x) (S y))) (blk off cap : Nat) (d : Array α) (w : World)
    (hread : ∀ (m : Nat) (os : Array Obj) (dk : Array α), dk.size = d.size → ∀ x, Reads vs (sortWorld enc w blk off m dk os) (enc x) (S x))
    (hH : Holds enc w blk off d) (hblk : blk < w.heap.size) (hsz : d.size < 4611686018427387904) :
    Calls Try.prog 51 #[.slice (some ⟨blk, off, none⟩) d.size cap, .func (.func 50) #[] #[]] w fun e w' =>
      e = .returned (.tuple #[]) ∧ ∃ d' n os, PermIn 0 d.size d d' ∧ SortedIn (ltOf fun x y => cmpL (S x) (S y)) 0 d.size d' ∧ w' = sortWorld enc w blk off n d' os := by
  have eg : ∀ args w, (callFunc 50 args).run Try.prog w = .ok (.enter 50 args) w := enters_of Try.func50 (by kernel_rfl) rfl
  have hcmp : CmpLays1 Try.prog 50 #[] enc (fun x y => cmpL (S x) (S y)) blk off d.size w := fun m os dk hs x y =>
    (cmpset_any (enc x) (enc y) (S x) (S y) _ (hread m os dk hs x) (hread m os dk hs y)).mono fun _ _ ⟨he, hw⟩ => ⟨he, 0, #[], by subst hw; rw [grow_empty]; rfl⟩
  exact Any.slices_SortFunc sortSets enc hone (fun x y => cmpL (S x) (S y)) hO 50 #[] blk off cap d w eg hcmp hH hblk hsz
end Go.Proofs.Ytgolodpihmdmoaa
