/-
  Chapter 02: small: the bound of the statements.
-/
import Derived.Test.YtgolodpihmdmoaaNk
import Derived.Test.YtgolodpihmdmoaaNj
namespace Go.Proofs.Ytgolodpihmdmoaa
open Go.RowKit Go.Sort

/-- Within the bounds of the statements. -/
def Small (xs : List Str) : Prop := xs.length ≤ 30 ∧ ∀ x ∈ xs, x.length ≤ 40
instance (xs : List Str) : Decidable (Small xs) := by unfold Small; exact inferInstance

theorem small_any (v : Value) (xs : List Str) (w : World) (hr : Reads vs w v xs) (hs : ∀ x ∈ xs, x.length ≤ maxLen) :
    Calls Try.prog 15 #[v] w fun e w' => e = .returned (.bool (decide (Small xs))) ∧ w = w' := by
  obtain ⟨ao, cap, rfl, hl, hm, hn, hx⟩ := hr
  unfold maxLen at hm hs
  have HS := Lib.hid hs
  clear hs
  by_cases h30 : 30 < xs.length
  · go_enter Try.func15, Try.ntmps15
    go_wp2
    go_ret
    exact ⟨ret_bool (decide_eq_false (fun h => by have := h.1; omega)).symm, rfl⟩
  · go_enter Try.func15, Try.ntmps15
    go_wp2
    go_loop [3] (fun i => ∃ k : Nat, k ≤ xs.length ∧ i = .int .i64 k ∧ ∀ x ∈ xs.take k, x.length ≤ 40) (fun i => xs.length - (intOf i).toNat)
    case atStart => exact ⟨0, by omega, rfl, by simp⟩
    case round =>
      obtain ⟨k, hk, rfl, hp⟩ := hrel
      have HP := Lib.hid hp
      clear hp
      by_cases hlt : k < xs.length
      · obtain ⟨b, off, rfl, hb, hc⟩ := hx (by intro e; subst e; simp at hlt)
        have h2 : w.cell? ⟨b, off + k, none⟩ = some (.string (toB xs[k])) := hc k hlt
        have hsz : (toB xs[k]).size = xs[k].length := rfl
        have hbd := HS.out xs[k] (List.getElem_mem _)
        clear hc hx hn
        by_cases hd : 40 < xs[k].length
        · have hd2 : 40 < (toB xs[k]).size := hd
          have HD := Lib.hid hd
          clear hd hsz hbd
          go_wp2
          go_ret
          exact ⟨ret_bool (decide_eq_false (fun h => by have := h.2 _ (List.getElem_mem (h := hlt)); have := HD.out; omega)).symm, rfl⟩
        · have hd2 : ¬ 40 < (toB xs[k]).size := hd
          have HD := Lib.hid hd
          clear hd hsz hbd
          go_wp2
          go_round
          case rel => exact ⟨k + 1, by omega, by go_num, by rw [List.take_succ_eq_append_getElem hlt]; simp only [List.mem_append, List.mem_singleton]; exact fun s h => h.elim (HP.out s) (fun e => by subst e; have := HD.out; omega)⟩
          case measure => simp [intOf]; omega
      · go_wp2
        go_ret
        refine ⟨ret_bool (decide_eq_true ⟨by omega, ?_⟩).symm, rfl⟩
        have := HP.out
        rwa [List.take_of_length_le (by omega)] at this

theorem bb_true (b : Bool) : (b == b) = true := beq_self_eq_true b
theorem bb_eq {a b : Bool} (h : a = b) : (a == b) = true := by rw [h]; exact bb_true b
end Go.Proofs.Ytgolodpihmdmoaa
