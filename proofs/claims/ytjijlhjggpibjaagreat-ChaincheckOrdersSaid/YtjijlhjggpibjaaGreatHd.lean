/-
  Chapter 54: a copy of an operation.
-/
import Derived.Test.YtjijlhjggpibjaaGreatHc
import Derived.Test.YtjijlhjggpibjaaGreatRt
namespace Go.Proofs.YtjijlhjggpibjaaGreat
open Go.RowKit

theorem results_cell {P : Program} {fn : Func} {a : Tmp} {t : TypeId} {tmps : Array Value} {b o : Nat} {v : Value} {w : World} (h : fn.results = #[.cell a t]) (ha : tmps.getD a undef = .pointer (some ⟨b, o, none⟩)) (hl : (loadVar t ⟨b, o, none⟩).run P w = .ok v w) :
    (results fn tmps).run P w = .ok v w := by
  rw [Array.getD_eq_getD_getElem?] at ha
  simp [results, h, ha, asAddr, hl]
def OwnS (w : World) (xs : List Str) (e : Ending) (w' : World) : Prop := ∃ v', e = .returned v' ∧ w'.ownsRow w.heap.size 9 1 v' xs.length (xs.map vs) ∧ Below w.heap.size w w'
theorem sclone_any (v : Value) (xs : List Str) (w : World) (hr : Reads vs w v xs) (hb : xs.length ≤ 1000000) : Calls Tryz.prog 53 #[v] w (OwnS w xs) := by
  rcases hr.cases with ⟨rfl, ao, cap, rfl, hm, hn⟩ | ⟨h0, b, off, cap, rfl, hl, hm, hlt, hc⟩
  · cases ao with
    | none =>
      refine (Tryz.slices_Clone_string_nil _ _ _).mono ?_
      rintro e w1 ⟨rfl, rfl⟩
      exact ⟨_, rfl, World.ownsRow_nil _ _ _ _, Below.refl _ _⟩
    | some a =>
      refine (Tryz.slices_Clone_string_zero a cap w).mono ?_
      rintro e w1 ⟨v', rfl, h1, _, h2⟩
      exact ⟨_, rfl, h1, h2⟩
  · have hz : (xs.map toB).length = xs.length := by simp
    have hcl := Tryz.slices_Clone_string b off xs.length cap (xs.map toB) w (by omega) (by omega) (fun j hj => by rw [getD_map_toB xs j (by omega)]; exact hc j (by omega))
    rw [List.take_of_length_le (by omega), map_toB_string] at hcl
    refine hcl.mono ?_
    rintro e w1 ⟨v', rfl, h1, _, h2⟩
    exact ⟨_, rfl, h1, h2⟩
theorem ownsRow_base {w : World} {b b' : Nat} {e : TypeId} {s n : Nat} {v : Value} {xs : List Value} (h : w.ownsRow b e s v n xs) (hb : b' ≤ b) : w.ownsRow b' e s v n xs := by
  refine ⟨h.1, ?_⟩
  rcases h.2 with hn | ⟨g, cap, cur, hv, hbb, rest⟩
  · exact .inl hn
  · exact .inr ⟨g, cap, cur, hv, Nat.le_trans hb hbb, rest⟩
def leftS (N : Nat) (xs : List Str) : Left := .has (fun x w => w.ownsRow N 9 1 x xs.length (xs.map vs)) (fun _ _ _ hb h => below_row h hb)
theorem row_slc {w : World} {b s n : Nat} {t : TypeId} {v : Value} {xs : List Value} (h : w.ownsRow b t s v n xs) : ∃ a c, v = .slice a n c := by
  rcases h.2 with ⟨h1, h0⟩ | ⟨_, _, _, h1, _⟩
  · subst h0; exact ⟨_, _, h1⟩
  · exact ⟨_, _, h1⟩
theorem row_ne {w : World} {b s n g : Nat} {t : TypeId} {v : Value} {xs : List Value} (h : w.ownsRow b t s v n xs) (hg : g < b) : v.ownBlock = none ∨ v.ownBlock ≠ some g := by
  cases e : v.ownBlock with
  | none => exact .inl rfl
  | some k => exact .inr (fun h' => by have := (h.lt k e).1; injection h' with h'; omega)
theorem row_blk {w w' : World} {base s n : Nat} {e : TypeId} {v : Value} {xs : List Value} (h : w.ownsRow base e s v n xs) (hk : ∀ g cur, base ≤ g → Blk w g e cur → Blk w' g e cur) : w'.ownsRow base e s v n xs := by
  refine ⟨h.1, ?_⟩
  rcases h.2 with hn | ⟨g, cap, cur, hv, hb, hg, rest⟩
  · exact .inl hn
  · exact .inr ⟨g, cap, cur, hv, hb, hk g cur hb hg, rest⟩
/-- An operation by value, its lists in rows of the call's own. -/
def OpRow (w : World) (v : Value) (o : Opn) : Prop := ∃ va vz, v = opV o va vz ∧ w.ownsRow 0 9 1 va (addO o).length ((addO o).map vs) ∧ w.ownsRow 0 9 1 vz (seeO o).length ((seeO o).map vs)
theorem OpRow.at_ {w : World} {v : Value} {o : Opn} (h : OpRow w v o) : OpAt w v o := by
  obtain ⟨va, vz, h1, h2, h3⟩ := h
  exact ⟨va, vz, h1, Reads.of_owns h2, Reads.of_owns h3⟩
def CloneMade (w : World) (o : Opn) (e : Ending) (w' : World) : Prop := ∃ v, e = .returned v ∧ OpRow w' v o ∧ Below w.heap.size w w'

end Go.Proofs.YtjijlhjggpibjaaGreat
