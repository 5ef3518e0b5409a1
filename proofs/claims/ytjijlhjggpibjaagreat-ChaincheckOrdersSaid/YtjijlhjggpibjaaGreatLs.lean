/-
  A slice of strings, cut: what v[k:] and v[:k] read as; the cut as one equation for the walk.
-/
import Derived.Test.YtjijlhjggpibjaaGreatLb
namespace Go.Proofs.YtjijlhjggpibjaaGreat
open Go.RowKit

section
variable {α : Type} {enc : α → Value} {w : World}
/-- 's[k:]'. -/
theorem cut_low {P : Program} {t e : TypeId} (ht : P.underlying t = some (.slice (P.elem t))) (he : P.elem t = e) (hs : ∀ w, (sizeOf e).run P w = .ok 1 w) {ao : Option Addr} {cap : Nat} {xs : List α} {n : Nat} (hn : n = xs.length)
    (h : Reads enc w (.slice ao n cap) xs) (l : Int) (h0 : 0 ≤ l) (h1 : l ≤ xs.length) :
    ∃ v', (∀ wx, (Instr.slice t (.slice ao n cap) (some (.int .i64 l)) none none).run P wx = .ok v' wx) ∧ Reads enc w v' (xs.drop l.toNat) := by
  subst hn
  refine ⟨sliced ao l.toNat xs.length cap 1, fun wx => ?_, ?_⟩
  · rw [run_slice_l wx t ao xs.length cap ht .i64 l h0 h1, he, hs]; rfl
  · obtain ⟨k, rfl⟩ := Int.eq_ofNat_of_zero_le h0
    have hk : k ≤ xs.length := by omega
    obtain ⟨ao', cap', hv, hl, hm, hno, hx⟩ := h
    injection hv with e1 _ e3
    subst e1; subst e3
    have hd : (xs.drop k).length = xs.length - k := by simp
    unfold sliced
    simp only [Int.toNat_natCast, Nat.mul_one]
    refine ⟨if cap = k then ao else ao.map (·.add k), cap - k, by rw [hd], by omega, by omega, ?_, ?_⟩
    · intro hnone
      split at hnone
      · omega
      · cases ao with
        | none => have := hno rfl; omega
        | some a => simp at hnone
    · intro hne
      have hlt : k < xs.length := by
        have := List.length_pos_iff.2 hne
        omega
      obtain ⟨b, off, rfl, hb, hc⟩ := hx (by intro e; subst e; simp at hlt)
      rw [if_neg (by omega)]
      refine ⟨b, off + k, by by_cases h0 : k = 0 <;> simp [Addr.add, h0], hb, fun j hj => ?_⟩
      have := hc (k + j) (by omega)
      rw [show off + k + j = off + (k + j) by omega, this]
      simp

/-- 's[:k]'. -/
theorem cut_high {P : Program} {t e : TypeId} (ht : P.underlying t = some (.slice (P.elem t))) (he : P.elem t = e) (hs : ∀ w, (sizeOf e).run P w = .ok 1 w) {ao : Option Addr} {cap : Nat} {xs : List α} {n : Nat} (hn : n = xs.length)
    (h : Reads enc w (.slice ao n cap) xs) (l : Int) (h0 : 0 ≤ l) (h1 : l ≤ xs.length) :
    ∃ v', (∀ wx, (Instr.slice t (.slice ao n cap) none (some (.int .i64 l)) none).run P wx = .ok v' wx) ∧ Reads enc w v' (xs.take l.toNat) := by
  subst hn
  have hcap : xs.length ≤ cap := by
    obtain ⟨ao', cap', hv, hl, _⟩ := h
    injection hv with e1 _ e3
    omega
  refine ⟨sliced ao 0 l.toNat cap 1, fun wx => ?_, ?_⟩
  · rw [run_slice_h wx t ao xs.length cap ht .i64 l h0 (by omega), he, hs]; rfl
  · obtain ⟨k, rfl⟩ := Int.eq_ofNat_of_zero_le h0
    have hk : k ≤ xs.length := by omega
    obtain ⟨ao', cap', hv, hl, hm, hno, hx⟩ := h
    injection hv with e1 _ e3
    subst e1; subst e3
    have hd : (xs.take k).length = k := by simp; omega
    unfold sliced
    simp only [Int.toNat_natCast, Nat.mul_one, Nat.sub_zero]
    refine ⟨if cap = 0 then ao else ao.map (·.add 0), cap, by rw [hd], by omega, by omega, ?_, ?_⟩
    · intro hnone
      split at hnone
      · assumption
      · cases ao with
        | none => exact hno rfl
        | some a => simp at hnone
    · intro hne
      have hlt : 0 < k := by
        have := List.length_pos_iff.2 hne
        omega
      obtain ⟨b, off, rfl, hb, hc⟩ := hx (by intro e; subst e; simp at hk; omega)
      rw [if_neg (by omega)]
      refine ⟨b, off, by simp [Addr.add], hb, fun j hj => ?_⟩
      rw [hc j (by omega)]
      simp
end
end Go.Proofs.YtjijlhjggpibjaaGreat
