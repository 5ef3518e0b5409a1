/-
  Chapter 28: equality of byte strings (the reference).
-/
import Derived.Test.YtmcdmcnbnnfhnaaDe
import Derived.Laws.BytesArg
namespace Go.Proofs.Ytmcdmcnbnnfhnaa
open Go.RowKit

/-- Equality as a plain truth value. -/
noncomputable def eqb {α : Type} (a b : α) : Bool := @decide (a = b) (Classical.propDecidable _)
theorem eqb_iff {α : Type} {a b : α} : eqb a b = true ↔ a = b := by unfold eqb; exact @decide_eq_true_iff _ (Classical.propDecidable _)
theorem eqb_pos {α : Type} {a b : α} (h : a = b) : eqb a b = true := eqb_iff.2 h
theorem eqb_neg {α : Type} {a b : α} (h : ¬ a = b) : eqb a b = false := by rw [← Bool.not_eq_true, eqb_iff]; exact h
theorem eqb_dec {α : Type} [DecidableEq α] (a b : α) : eqb a b = decide (a = b) := by rw [Bool.eq_iff_iff, eqb_iff, decide_eq_true_iff]
theorem fold_push : ∀ (l : Str) (s : ByteArray), (l.map fun c => ((c.toNat : Nat) : Int)).foldl (fun r n => r.push (UInt8.ofNat n.toNat)) s = ⟨s.data ++ l.toArray⟩
  | [], s => by simp
  | c :: l, s => by
    rw [List.map_cons, List.foldl_cons, fold_push l]
    simp [ByteArray.push]
theorem conv_bytes {P : Nat → Prop} {w : World} {v : Value} {l : Str} (h : ReadsD P w v (bytesD l)) : (convert 22 9 v).run Try.prog w = .ok (.string (toB l)) w := by
  obtain ⟨ao, cap, rfl, hl, hm, hn, hL⟩ := h.bslc
  rw [run_convert_bytes_string w 22 9 5 ao l.length cap Try.underlying22 Try.underlying5 Try.underlying9]
  cases ao with
  | none =>
    have h0 : l = [] := List.length_eq_zero_iff.1 (by have := hn rfl; omega)
    subst h0
    rfl
  | some a =>
    obtain ⟨-, us, h1, h2, h3⟩ := ReadsD.cells (show ReadsD P w (.slice (some a) l.length cap) (.ls 1 (l.map fun c => [.val (v8 c)])) from h)
    have hcells : ∀ j u, (l.map v8)[j]? = some u → w.cell? (a.add j) = some u := fun j u hu => by
      rw [List.getElem?_map] at hu
      by_cases hj : j < l.length
      · rw [List.getElem?_eq_getElem hj, Option.map_some] at hu
        injection hu with hu
        subst hu
        have h4 := h1 j (by simpa using hj) 0 (by simp)
        simp only [List.getElem_map, List.getElem_cons_zero] at h4
        have h5 := h4.atv
        refine h3 j _ ?_
        rw [List.getElem?_map, List.getElem?_range (by simpa using hj), Option.map_some, Nat.div_one, Nat.mod_one, h5]
      · rw [List.getElem?_eq_none (by omega)] at hu; simp at hu
    have hld := run_loadCells_list (P := Try.prog) w a (l.map v8) hcells
    rw [List.length_map] at hld
    have := run_bytesToString (P := Try.prog) w a l.length cap (l.map fun c => ((c.toNat : Nat) : Int)) (by rw [hld, List.map_map]; rfl)
    rw [this, fold_push]
    simp [toB]
theorem same_bytes {P P' : Nat → Prop} (v u : Value) (a b : Str) (w : World) (hv : ReadsD P w v (bytesD a)) (hu : ReadsD P' w u (bytesD b)) : Calls Try.prog 40 #[v, u] w (BoolMade w (eqb a b)) := by
  have h1 := conv_bytes hv
  have h2 := conv_bytes hu
  have hb := beq_toB a b
  rw [← eqb_dec] at hb
  generalize hd : eqb a b = d at *
  clear hd hv hu
  cases d
  all_goals
    go_enter Try.func40, Try.ntmps40
    go_wp2
    go_ret
    exact ⟨rfl, Below.refl _ _⟩
end Go.Proofs.Ytmcdmcnbnnfhnaa
