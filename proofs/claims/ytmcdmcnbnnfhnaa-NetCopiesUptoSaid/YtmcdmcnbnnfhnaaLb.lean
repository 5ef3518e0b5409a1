/-
  What is of no one function: strings as lists of bytes, what a slice reads as, and how that is kept.
-/
import Derived.Test.YtmcdmcnbnnfhnaaRows
import Derived.WalkKit
import Derived.WalkLawsBesides
import Derived.WalkSpells
import Derived.Deep.QuietTactic
import Derived.BigQuiet
import Derived.Lib.Hide
import Derived.Lib.OwnBridge
import Derived.SliceStrings
import Derived.Lib.Strings
import Derived.Sort.Walk0
namespace Go.Proofs.Ytmcdmcnbnnfhnaa
open Go.RowKit

theorem ret_bool {a b : Bool} (h : a = b) : Ending.returned (.bool a) = .returned (.bool b) := by rw [h]
theorem ret_int {k : IntKind} {a b : Int} (h : a = b) : Ending.returned (.int k a) = .returned (.int k b) := by rw [h]

/-- Strings as plain data: lists of bytes. -/
abbrev Str := List UInt8
def toB (l : Str) : ByteArray := ⟨l.toArray⟩
def vs (l : Str) : Value := .string (toB l)

theorem toB_data (s : ByteArray) : toB s.data.toList = s := rfl
theorem data_toB (l : Str) : (toB l).data.toList = l := rfl
theorem toList_toB (l : Str) : (toB l).toList = l := by rw [Lib.toList_data]; rfl
theorem size_toB (l : Str) : (toB l).size = l.length := rfl
theorem vs_enc (l : Str) : Proofs.encStr l = vs l := rfl
theorem vs_data (s : ByteArray) : vs s.data.toList = .string s := rfl
theorem toB_inj {a b : Str} (h : toB a = toB b) : a = b := by rw [← data_toB a, h, data_toB]

theorem less_toB (a b : Str) : Op.bytesLess (toB a).toList (toB b).toList = decide (a < b) := by rw [toList_toB, toList_toB, Proofs.bytesLess_eq]
theorem beq_toB (a b : Str) : ((toB a).toList == (toB b).toList) = decide (a = b) := by rw [toList_toB, toList_toB, Bool.eq_iff_iff]; simp

/-- The value v is, in w, a slice whose elements are xs. -/
def Reads {α : Type} (enc : α → Value) (w : World) (v : Value) (xs : List α) : Prop :=
  ∃ ao cap, v = .slice ao xs.length cap ∧ xs.length ≤ cap ∧ cap ≤ maxLen ∧ (ao = none → cap = 0) ∧
    (xs ≠ [] → ∃ b off, ao = some ⟨b, off, none⟩ ∧ b < w.heap.size ∧ ∀ j (h : j < xs.length), w.cell? ⟨b, off + j, none⟩ = some (enc xs[j]))

section
variable {α : Type} {enc : α → Value} {w w' : World} {v : Value} {xs : List α}

theorem Reads.nil (w : World) : Reads enc w (.slice none 0 0) ([] : List α) := ⟨none, 0, rfl, Nat.le_refl _, by simp [maxLen], fun _ => rfl, fun h => absurd rfl h⟩

theorem Reads.empty (w : World) (ao : Option Addr) (cap : Nat) (hc : cap ≤ maxLen) (hn : ao = none → cap = 0) : Reads enc w (.slice ao 0 cap) ([] : List α) := ⟨ao, cap, rfl, Nat.zero_le _, hc, hn, fun h => absurd rfl h⟩

theorem Reads.at {b off cap : Nat} (hl : xs.length ≤ cap) (hm : cap ≤ maxLen) (hb : b < w.heap.size) (hc : ∀ j (h : j < xs.length), w.cell? ⟨b, off + j, none⟩ = some (enc xs[j])) :
    Reads enc w (.slice (some ⟨b, off, none⟩) xs.length cap) xs := ⟨_, cap, rfl, hl, hm, fun h => by simp at h, fun _ => ⟨b, off, rfl, hb, hc⟩⟩

/-- Either nothing is in it, or it lies at an address. -/
theorem Reads.cases (h : Reads enc w v xs) : (xs = [] ∧ ∃ ao cap, v = .slice ao 0 cap ∧ cap ≤ maxLen ∧ (ao = none → cap = 0)) ∨
    (0 < xs.length ∧ ∃ b off cap, v = .slice (some ⟨b, off, none⟩) xs.length cap ∧ xs.length ≤ cap ∧ cap ≤ maxLen ∧ b < w.heap.size ∧ ∀ j (h : j < xs.length), w.cell? ⟨b, off + j, none⟩ = some (enc xs[j])) := by
  obtain ⟨ao, cap, rfl, hl, hm, hn, hx⟩ := h
  by_cases he : xs = []
  · subst he; exact .inl ⟨rfl, ao, cap, rfl, hm, hn⟩
  · obtain ⟨b, off, rfl, hb, hc⟩ := hx he
    exact .inr ⟨List.length_pos_iff.2 he, b, off, cap, rfl, hl, hm, hb, hc⟩

theorem Reads.keep (h : Reads enc w v xs) (hb : Below w.heap.size w w') : Reads enc w' v xs := by
  obtain ⟨ao, cap, rfl, hl, hm, hn, hx⟩ := h
  refine ⟨ao, cap, rfl, hl, hm, hn, fun he => ?_⟩
  obtain ⟨b, off, rfl, hlt, hc⟩ := hx he
  exact ⟨b, off, rfl, Nat.lt_of_lt_of_le hlt hb.size, fun j hj => (hb.cell (p := ⟨b, off + j, none⟩) hlt).trans (hc j hj)⟩

theorem Reads.of_owns {base : Nat} {e : TypeId} {n : Nat} (h : w.ownsRow base e 1 v n (xs.map enc)) : Reads enc w v xs := by
  have hl : xs.length = n := by simpa using h.1
  rcases h.2 with ⟨rfl, h0⟩ | ⟨g, cap, cur, rfl, hb, hg, hn, hm, hs, ht⟩
  · have : xs = [] := List.length_eq_zero_iff.1 (by omega)
    subst this; exact Reads.nil w
  · subst hl
    have hlt : g < w.heap.size := by
      rcases Nat.lt_or_ge g w.heap.size with h' | h'
      · exact h'
      · rw [Array.getElem?_eq_none h'] at hg; cases hg
    refine Reads.at hn hm hlt fun j hj => ?_
    have e1 : (cur.toList.take (xs.length * 1))[j]? = (xs.map enc)[j]? := by rw [ht]
    rw [List.getElem?_take, if_pos (by omega), Array.getElem?_toList, List.getElem?_map, List.getElem?_eq_getElem hj] at e1
    simp only [World.cell?, hg, Nat.zero_add]
    simp only [Option.isSome_none, Bool.false_eq_true, if_false]
    rw [e1]; rfl

theorem Reads.len (h : Reads enc w v xs) : xs.length ≤ maxLen := by
  obtain ⟨ao, cap, rfl, hl, hm, _⟩ := h; omega
end

theorem getD_map_toB (xs : List Str) (j : Nat) (h : j < xs.length) : (xs.map toB).getD j ByteArray.empty = toB xs[j] := by simp [List.getD, h]

/-- A []string that came in. -/
theorem reads_of_open {w : World} {a : Addr} {len cap : Nat} {ss : List ByteArray} (hlc : len ≤ cap) (hm : cap ≤ maxLen) (hl : len ≤ ss.length)
    (hspot : 0 < len → a.spot = none) (hb : 0 < len → a.block < w.heap.size)
    (hc : ∀ i, i < ss.length → w.cell? (a.add i) = some (.string (ss.getD i ByteArray.empty))) : Reads vs w (.slice (some a) len cap) ((ss.take len).map (·.data.toList)) := by
  have hle : ((ss.take len).map (·.data.toList)).length = len := by simp; omega
  refine ⟨some a, cap, by rw [hle], by rw [hle]; exact hlc, hm, fun h => by simp at h, fun hne => ?_⟩
  have h0 : 0 < len := by rw [← hle]; exact List.length_pos_iff.2 hne
  obtain ⟨b, o, sp⟩ := a
  have := hspot h0
  simp only at this
  subst this
  refine ⟨b, o, rfl, hb h0, fun j hj => ?_⟩
  rw [hle] at hj
  have := hc j (by omega)
  rw [show (⟨b, o + j, none⟩ : Addr) = Addr.add ⟨b, o, none⟩ j by by_cases h0 : j = 0 <;> simp [Addr.add, h0], this]
  simp [List.getD, show j < ss.length by omega, vs, toB_data]

theorem bcell {W w1 : World} (hb : Below W.heap.size W w1) : (∀ b o, b < W.heap.size → w1.cell? ⟨b, o, none⟩ = W.cell? ⟨b, o, none⟩) ∧ (∀ b o, b < W.heap.size → w1.frozen? ⟨b, o, none⟩ = W.frozen? ⟨b, o, none⟩) :=
  ⟨fun b o h => hb.cell (p := ⟨b, o, none⟩) h, fun b o h => hb.frozen (p := ⟨b, o, none⟩) h⟩

theorem below_drewN {B : Nat} {w : World} (q : Nat) : Below B w (w.drewN q) := ⟨rfl, rfl, rfl, Nat.le_refl _, fun _ _ => rfl⟩

/-- Only answers have been drawn. -/
def Drew (w w' : World) : Prop := ∃ q, w' = w.drewN q
theorem drewN_add (w : World) (q r : Nat) : (w.drewN q).drewN r = w.drewN (q + r) := by simp [World.drewN, Nat.add_assoc]
theorem Drew.refl (w : World) : Drew w w := ⟨0, rfl⟩
theorem Drew.step {w w' : World} (h : Drew w w') (r : Nat) : Drew w (w'.drewN r) := by obtain ⟨q, rfl⟩ := h; exact ⟨q + r, drewN_add w q r⟩
theorem Drew.trans {a b c : World} (h : Drew a b) (k : Drew b c) : Drew a c := by obtain ⟨q, rfl⟩ := k; exact h.step q
theorem Drew.cell {w w' : World} (h : Drew w w') (a : Addr) : w'.cell? a = w.cell? a := by obtain ⟨q, rfl⟩ := h; rfl
theorem Drew.below {B : Nat} {w w' : World} (h : Drew w w') : Below B w w' := by obtain ⟨q, rfl⟩ := h; exact below_drewN q
theorem Drew.size {w w' : World} (h : Drew w w') : w'.heap.size = w.heap.size := by obtain ⟨q, rfl⟩ := h; rfl

end Go.Proofs.Ytmcdmcnbnnfhnaa
