/-
  Chapter 55: names.Has, Subset (chapter 02's text, cut).
-/
import Derived.Test.YtjijlhjggpibjaaGreatH2
import Derived.Test.YtjijlhjggpibjaaGreatShelf
import Derived.Sort.OwnSorted
namespace Go.Proofs.YtjijlhjggpibjaaGreat
open Go.RowKit Go.Sort

theorem has_any (v : Value) (xs : List Str) (s : Str) (w : World) (hr : Reads vs w v xs) :
    Calls Tryz.prog 56 #[v, vs s] w fun e w' => e = .returned (.bool (decide (s ∈ xs))) ∧ w = w' := by
  rcases hr.cases with ⟨rfl, ao, cap, rfl, hm, hn⟩ | ⟨h0, b, off, cap, rfl, hl, hm, hlt, hc⟩
  · unfold vs
    go_enter Tryz.func56, Tryz.ntmps56
    go_wp2_with fail
    refine (Tryz.slices_Contains_string_empty _ _ _ _).mono ?_
    rintro e w1 ⟨rfl, rfl⟩
    go_wp2
    go_ret
    exact ⟨ret_bool (by simp), rfl⟩
  · have hz : (xs.map toB).length = xs.length := by simp
    have hcl := Tryz.slices_Contains_string b off xs.length cap (xs.map toB) (toB s) w (by omega) (by unfold maxLen at hm; omega) (fun j hj => by rw [getD_map_toB xs j (by omega)]; exact hc j (by omega))
    rw [List.take_of_length_le (by omega)] at hcl
    have hB : Lib.containsS (xs.map toB) (toB s) = decide (s ∈ xs) := by
      rw [Bool.eq_iff_iff, Lib.containsS_iff]
      simp only [List.mem_map, decide_eq_true_eq]
      exact ⟨fun ⟨a, ha, he⟩ => by rw [← toB_inj he]; exact ha, fun h => ⟨s, h, rfl⟩⟩
    rw [hB] at hcl
    clear hB
    have HC := Lib.hid hc
    clear hc
    unfold vs
    go_enter Tryz.func56, Tryz.ntmps56
    go_wp2_with fail
    refine hcl.mono ?_
    rintro e w1 ⟨rfl, rfl⟩
    clear hcl
    go_wp2
    go_ret
    exact ⟨rfl, rfl⟩

def subB (xs ys : List Str) : Bool := decide (∀ s ∈ xs, s ∈ ys)

theorem subset_any (v u : Value) (xs ys : List Str) (w : World) (hr : Reads vs w v xs) (hs : Reads vs w u ys) :
    Calls Tryz.prog 29 #[v, u] w fun e w' => e = .returned (.bool (subB xs ys)) ∧ w = w' := by
  obtain ⟨ao, cap, rfl, hl, hm, hn, hx⟩ := hr
  unfold maxLen at hm
  have HS := Lib.hid hs
  clear hs
  go_enter Tryz.func29, Tryz.ntmps29
  go_wp2
  go_loop [9] (fun i => ∃ k : Nat, k ≤ xs.length ∧ i = .int .i64 k ∧ ∀ s ∈ xs.take k, s ∈ ys) (fun i => xs.length - (intOf i).toNat)
  case atStart => exact ⟨0, by omega, rfl, by simp⟩
  case round =>
    obtain ⟨k, hk, rfl, hp⟩ := hrel
    have HP := Lib.hid hp
    clear hp
    by_cases hlt : k < xs.length
    · obtain ⟨b, off, rfl, hb, hc⟩ := hx (by intro e; subst e; simp at hlt)
      have h2 : w.cell? ⟨b, off + k, none⟩ = some (.string (toB xs[k])) := hc k hlt
      clear hc hx hn
      by_cases hd : xs[k] ∈ ys
      · have hB : decide (xs[k] ∈ ys) = true := decide_eq_true hd
        have HD := Lib.hid hd
        clear hd
        go_wp2_with fail
        refine (has_any _ ys xs[k] _ HS.out).mono ?_
        rintro e w1 ⟨rfl, rfl⟩
        go_wp2
        go_round
        case rel => exact ⟨k + 1, by omega, by go_num, by rw [List.take_succ_eq_append_getElem hlt]; simp only [List.mem_append, List.mem_singleton]; exact fun s h => h.elim (HP.out s) (fun e => e ▸ HD.out)⟩
        case measure => simp [intOf]; omega
      · have hB : decide (xs[k] ∈ ys) = false := decide_eq_false hd
        have HD := Lib.hid hd
        clear hd
        go_wp2_with fail
        refine (has_any _ ys xs[k] _ HS.out).mono ?_
        rintro e w1 ⟨rfl, rfl⟩
        go_wp2
        go_ret
        exact ⟨ret_bool (decide_eq_false (fun h => HD.out (h _ (List.getElem_mem _)))).symm, rfl⟩
    · go_wp2
      go_ret
      refine ⟨ret_bool (decide_eq_true ?_).symm, rfl⟩
      have := HP.out
      rwa [List.take_of_length_le (by omega)] at this
end Go.Proofs.YtjijlhjggpibjaaGreat
