/-
  Chapter 02: names.Of, Has, Subset over the shelf's contracts.
-/
import Derived.Test.YtjijlhjggpibjaaGreatH1
import Derived.Test.YtjijlhjggpibjaaGreatShelf
import Derived.Sort.OwnSorted
namespace Go.Proofs.YtjijlhjggpibjaaGreat
open Go.RowKit Go.Sort

/-- The elements of a list, sorted, each once. -/
def ofL (xs : List Str) : List Str := Lib.compact (xs.mergeSort fun x y => decide (x ≤ y))

theorem ofL_length (xs : List Str) : (ofL xs).length ≤ xs.length := by
  unfold ofL
  have h1 := Lib.compact_length_le (xs.mergeSort fun x y => decide (x ≤ y))
  rwa [List.length_mergeSort] at h1

theorem ofL_nil : ofL [] = [] := by
  have := ofL_length []
  exact List.length_eq_zero_iff.1 (Nat.le_zero.1 this)

/-- From what the three contracts leave. -/
theorem of_left {w w1 : World} {g cap n nn q : Nat} {e : TypeId} {os : Array Obj} {ss : List Str} (hown : w1.ownsRow w.heap.size e 1 (.slice (some ⟨g, 0, none⟩) n cap) n (ss.map encStr)) (hbel : Below w.heap.size w w1) (hbg : w.heap.size ≤ g) (hlen : ss.length = n) :
    (putRow encStr (Sort.ahead (grow (putRow encStr (Sort.ahead w1 nn) g 0 (ss.mergeSort fun x y => decide (x ≤ y)).toArray) os) q) g 0 (ofL ss ++ List.replicate (n - (ofL ss).length) []).toArray).ownsRow w.heap.size e 1 (.slice (some ⟨g, 0, none⟩) (ofL ss).length cap) (ofL ss).length ((ofL ss).map encStr) ∧
    Below w.heap.size w (putRow encStr (Sort.ahead (grow (putRow encStr (Sort.ahead w1 nn) g 0 (ss.mergeSort fun x y => decide (x ≤ y)).toArray) os) q) g 0 (ofL ss ++ List.replicate (n - (ofL ss).length) []).toArray) := by
  have hl2 : (ss.mergeSort fun x y => decide (x ≤ y)).length = ss.length := List.length_mergeSort ss
  have hle := ofL_length ss
  subst hlen
  rcases hown.2 with ⟨h0, _⟩ | ⟨g', cap', cur, hv, hbase, hb, h1, h2, h3, h4⟩
  · cases h0
  cases hv
  have hs := ownsRow_sorted (n := nn) (os := os) (ts := ss.mergeSort fun x y => decide (x ≤ y)) hl2 hbase hb h1 h2 h3
  have hc := Lib.ownsRow_putRow (q := q) (k := (ofL ss).length) (ys := ofL ss ++ List.replicate (ss.length - (ofL ss).length) []) hs (by simp; omega) hle
  rw [List.take_left] at hc
  exact ⟨hc, Lib.below_putRow (hbel.grown (grownBy_sorted _) hbel.size (fun j hj => by cases hj; exact hbase)) hbg⟩

/-- What a call of Of leaves: a slice of the call's own, of these elements. -/
def Made (w : World) (xs : List Str) (e : Ending) (w' : World) : Prop :=
  ∃ v', e = .returned v' ∧ w'.ownsRow w.heap.size 9 1 v' xs.length (xs.map vs) ∧ Below w.heap.size w w'

theorem of_tail (n : Nat) (arg : Value) (ss : List Str) (w : World) (hn : n ≤ 4611686018427387903)
    (hclone : Calls Tryz.prog 53 #[arg] w fun e w' => ∃ v', e = .returned v' ∧ w'.ownsRow w.heap.size 9 1 v' n (ss.map encStr) ∧ v' ≠ .slice none 0 0 ∧ Below w.heap.size w w') :
    Calls Tryz.prog 27 #[arg] w (Made w (ofL ss)) := by
  go_enter Tryz.func27, Tryz.ntmps27
  go_wp2_with fail
  refine hclone.mono ?_
  rintro e w1 ⟨v1, rfl, hown, hnn, hbel⟩
  obtain ⟨g, cap, rfl, hbg, hgl, hncap, hcm, hlen, hH⟩ := Lib.holds_of_ownsRow hown hnn
  have hsort := Tryz.slices_Sort_string g 0 cap ss w1 hH hgl (by omega)
  rw [hlen] at hsort
  have X : Aside (w1.ownsRow w.heap.size 9 1 (.slice (some ⟨g, 0, none⟩) n cap) n (ss.map encStr) ∧ Below w.heap.size w w1 ∧ w.heap.size ≤ g ∧ g < w1.heap.size ∧ n ≤ cap ∧ cap ≤ maxLen ∧ ss.length = n ∧ Holds encStr w1 g 0 ss.toArray) := ⟨hown, hbel, hbg, hgl, hncap, hcm, hlen, hH⟩
  clear hown hbel hH hnn
  go_wp2_with fail
  refine hsort.mono ?_
  rintro e w2 ⟨rfl, nn, os, rfl⟩
  have hl2 : (ss.mergeSort fun x y => decide (x ≤ y)).length = n := by rw [List.length_mergeSort]; exact X.out.2.2.2.2.2.2.1
  have hH2 : Holds encStr (grow (putRow encStr (Sort.ahead w1 nn) g 0 (ss.mergeSort fun x y => decide (x ≤ y)).toArray) os) g 0 (ss.mergeSort fun x y => decide (x ≤ y)).toArray :=
    holds_grow encStr _ os g 0 _ (by simpa [putRow, mapBlock, Sort.ahead] using X.out.2.2.2.1) (holds_putRow encStr _ g 0 _ _ (holds_ahead encStr w1 nn g 0 _ X.out.2.2.2.2.2.2.2) (by simp))
  have hcomp := Tryz.slices_Compact_string g 0 cap (ss.mergeSort fun x y => decide (x ≤ y)) _ hH2 (by omega) (by have := X.out.2.2.2.2.1; omega)
  rw [hl2] at hcomp
  clear hH2 hsort
  go_wp2_with fail
  refine hcomp.mono ?_
  rintro e w3 ⟨rfl, q, rfl⟩
  go_wp2
  go_ret
  have L := of_left (nn := nn) (q := q) (os := os) X.out.1 X.out.2.1 X.out.2.2.1 X.out.2.2.2.2.2.2.1
  exact ⟨_, rfl, L.1, L.2⟩

theorem map_toB_string (xs : List Str) : (xs.map toB).map Value.string = xs.map vs := by rw [List.map_map]; rfl

theorem of_any (v : Value) (xs : List Str) (w : World) (hr : Reads vs w v xs) (hb : xs.length * 16 ≤ 140737488355328) :
    Calls Tryz.prog 27 #[v] w (Made w (ofL xs)) := by
  rcases hr.cases with ⟨rfl, ao, cap, rfl, hm, hn⟩ | ⟨h0, b, off, cap, rfl, hl, hm, hlt, hc⟩
  · cases ao with
    | none =>
      have := hn rfl; subst this
      go_enter Tryz.func27, Tryz.ntmps27
      go_wp2_with fail
      refine (Tryz.slices_Clone_string_nil _ _ _).mono ?_
      rintro e w1 ⟨rfl, rfl⟩
      go_wp2_with fail
      refine (Tryz.slices_Sort_string_none _ _ _).mono ?_
      rintro e w1 ⟨rfl, rfl⟩
      go_wp2_with fail
      refine (Tryz.slices_Compact_string_empty _ _ _).mono ?_
      rintro e w1 ⟨rfl, rfl⟩
      go_wp2
      go_ret
      rw [ofL_nil]
      exact ⟨_, rfl, World.ownsRow_nil _ _ _ _, Below.refl _ _⟩
    | some a => exact of_tail 0 _ [] w (by omega) (Tryz.slices_Clone_string_zero a cap w)
  · have hz : (xs.map toB).length = xs.length := by simp
    have hcl := Tryz.slices_Clone_string b off xs.length cap (xs.map toB) w (by omega) hb (fun j hj => by rw [getD_map_toB xs j (by omega)]; exact hc j (by omega))
    rw [List.take_of_length_le (by omega), map_toB_string] at hcl
    exact of_tail xs.length _ xs w (by omega) hcl
end Go.Proofs.YtjijlhjggpibjaaGreat
