/-
  Chapter 02: the functions that only read lists of strings: Sorted, Has, Same, of the program and of the reference.
-/
import Derived.Test.YtjijlhjggpibjaaGreatLb
namespace Go.Proofs.YtjijlhjggpibjaaGreat
open Go.RowKit

theorem slt_irrefl (a : Str) : ¬ a < a := List.lt_irrefl a
theorem slt_trans {a b c : Str} (h : a < b) (k : b < c) : a < c := List.lt_trans h k
theorem slt_asymm {a b : Str} (h : a < b) : ¬ b < a := fun k => slt_irrefl a (slt_trans h k)
theorem slt_tri (a b : Str) : a < b ∨ a = b ∨ b < a := by
  rcases Decidable.em (a < b) with h | h
  · exact .inl h
  rcases Decidable.em (b < a) with k | k
  · exact .inr (.inr k)
  · exact .inr (.inl (List.le_antisymm (List.not_lt.1 k) (List.not_lt.1 h)))

/-- Strictly increasing. -/
def incB (xs : List Str) : Bool := decide (xs.Pairwise (· < ·))

theorem inc_snoc {xs : List Str} {k : Nat} (h0 : 0 < k) (hk : k < xs.length) (hp : (xs.take k).Pairwise (· < ·)) (hlt : xs[k-1] < xs[k]) : (xs.take (k + 1)).Pairwise (· < ·) := by
  rw [List.take_succ_eq_append_getElem hk, List.pairwise_append]
  refine ⟨hp, by simp, fun a ha b hb => ?_⟩
  simp at hb; subst hb
  obtain ⟨i, hi, rfl⟩ := List.getElem_of_mem ha
  have hi' : i < k := by simp at hi; omega
  simp only [List.getElem_take]
  by_cases e : i = k - 1
  · subst e; exact hlt
  · have hpw := List.pairwise_iff_getElem.1 hp i (k - 1) (by simp; omega) (by simp; omega) (by omega)
    simp only [List.getElem_take] at hpw
    exact slt_trans hpw hlt

theorem inc_bad {xs : List Str} {k : Nat} (h0 : 0 < k) (hk : k < xs.length) (hlt : ¬ xs[k-1] < xs[k]) : incB xs = false := by
  unfold incB
  refine decide_eq_false fun h => hlt ?_
  exact List.pairwise_iff_getElem.1 h (k-1) k (by omega) hk (by omega)

theorem inc_good {xs : List Str} {k : Nat} (hk : xs.length ≤ k) (hp : (xs.take k).Pairwise (· < ·)) : incB xs = true := by
  unfold incB
  rw [List.take_of_length_le hk] at hp
  exact decide_eq_true hp

theorem sorted_any (v : Value) (xs : List Str) (w : World) (hr : Reads vs w v xs) :
    Calls Tryz.prog 77 #[v] w fun e w' => e = .returned (.bool (incB xs)) ∧ Drew w w' := by
  obtain ⟨ao, cap, rfl, hl, hm, hn, hx⟩ := hr
  unfold maxLen at hm
  go_enter Tryz.func77, Tryz.ntmps77
  go_wp2
  go_loopw [3] (fun i wr => ∃ k : Nat, 0 < k ∧ (k ≤ xs.length ∨ k = 1) ∧ i = .int .i64 k ∧ (xs.take k).Pairwise (· < ·) ∧ Drew w wr) (fun i _ => xs.length - (intOf i).toNat)
  case atStart => exact ⟨1, by omega, .inr rfl, rfl, by cases xs <;> simp, Drew.refl _⟩
  case round =>
    obtain ⟨k, h0, hk, rfl, hp, hw⟩ := hrel
    have HP := Lib.hid hp
    clear hp
    by_cases hlt : k < xs.length
    · obtain ⟨b, off, rfl, hb, hc⟩ := hx (by intro e; subst e; simp at hlt)
      have h1 : wr.cell? ⟨b, off + (k - 1), none⟩ = some (.string (toB xs[k-1])) := (hw.cell _).trans (hc (k-1) (by omega))
      have h2 : wr.cell? ⟨b, off + k, none⟩ = some (.string (toB xs[k])) := (hw.cell _).trans (hc k hlt)
      clear hc hx hn
      have hk1 : (1 : Int) ≤ k := by omega
      have hk2 : ((k : Int) - 1) < xs.length := by omega
      by_cases hd : xs[k-1] < xs[k]
      · have hB : Op.bytesLess (toB xs[k-1]).toList (toB xs[k]).toList = true := by rw [less_toB]; exact decide_eq_true hd
        have HD := Lib.hid hd
        clear hd
        go_wp2
        have e1 : IntKind.i64.wrap ((k : Int) - 1) = (k : Int) - 1 := IntWalk.i64_in _ (by omega)
        have e2 : (0 : Int) ≤ (k : Int) - 1 := by omega
        have e3 : ((k : Int) - 1).toNat = k - 1 := by omega
        go_quiet (fail)
        clear e1 e2 e3
        go_wp2
        go_roundw
        case rel => exact ⟨k + 1, by omega, by omega, by go_num, inc_snoc h0 hlt HP.out HD.out, hw.step _⟩
        case measure => simp [intOf]; omega
      · have hB : Op.bytesLess (toB xs[k-1]).toList (toB xs[k]).toList = false := by rw [less_toB]; exact decide_eq_false hd
        have HD := Lib.hid hd
        clear hd
        go_wp2
        have e1 : IntKind.i64.wrap ((k : Int) - 1) = (k : Int) - 1 := IntWalk.i64_in _ (by omega)
        have e2 : (0 : Int) ≤ (k : Int) - 1 := by omega
        have e3 : ((k : Int) - 1).toNat = k - 1 := by omega
        go_quiet (fail)
        clear e1 e2 e3
        go_wp2
        go_ret
        exact ⟨ret_bool (inc_bad h0 hlt HD.out).symm, hw.step _⟩
    · go_wp2
      go_ret
      exact ⟨ret_bool (inc_good (by omega) HP.out).symm, hw⟩
theorem rsorted_any (v : Value) (xs : List Str) (w : World) (hr : Reads vs w v xs) :
    Calls Tryz.prog 81 #[v] w fun e w' => e = .returned (.bool (incB xs)) ∧ Drew w w' := by
  obtain ⟨ao, cap, rfl, hl, hm, hn, hx⟩ := hr
  unfold maxLen at hm
  go_enter Tryz.func81, Tryz.ntmps81
  go_wp2
  go_loopw [3] (fun i wr => ∃ k : Nat, 0 < k ∧ (k ≤ xs.length ∨ k = 1) ∧ i = .int .i64 k ∧ (xs.take k).Pairwise (· < ·) ∧ Drew w wr) (fun i _ => xs.length - (intOf i).toNat)
  case atStart => exact ⟨1, by omega, .inr rfl, rfl, by cases xs <;> simp, Drew.refl _⟩
  case round =>
    obtain ⟨k, h0, hk, rfl, hp, hw⟩ := hrel
    have HP := Lib.hid hp
    clear hp
    by_cases hlt : k < xs.length
    · obtain ⟨b, off, rfl, hb, hc⟩ := hx (by intro e; subst e; simp at hlt)
      have h1 : wr.cell? ⟨b, off + (k - 1), none⟩ = some (.string (toB xs[k-1])) := (hw.cell _).trans (hc (k-1) (by omega))
      have h2 : wr.cell? ⟨b, off + k, none⟩ = some (.string (toB xs[k])) := (hw.cell _).trans (hc k hlt)
      clear hc hx hn
      have hk1 : (1 : Int) ≤ k := by omega
      have hk2 : ((k : Int) - 1) < xs.length := by omega
      by_cases hd : xs[k-1] < xs[k]
      · have hB : Op.bytesLess (toB xs[k-1]).toList (toB xs[k]).toList = true := by rw [less_toB]; exact decide_eq_true hd
        have HD := Lib.hid hd
        clear hd
        go_wp2
        have e1 : IntKind.i64.wrap ((k : Int) - 1) = (k : Int) - 1 := IntWalk.i64_in _ (by omega)
        have e2 : (0 : Int) ≤ (k : Int) - 1 := by omega
        have e3 : ((k : Int) - 1).toNat = k - 1 := by omega
        go_quiet (fail)
        clear e1 e2 e3
        go_wp2
        go_roundw
        case rel => exact ⟨k + 1, by omega, by omega, by go_num, inc_snoc h0 hlt HP.out HD.out, hw.step _⟩
        case measure => simp [intOf]; omega
      · have hB : Op.bytesLess (toB xs[k-1]).toList (toB xs[k]).toList = false := by rw [less_toB]; exact decide_eq_false hd
        have HD := Lib.hid hd
        clear hd
        go_wp2
        have e1 : IntKind.i64.wrap ((k : Int) - 1) = (k : Int) - 1 := IntWalk.i64_in _ (by omega)
        have e2 : (0 : Int) ≤ (k : Int) - 1 := by omega
        have e3 : ((k : Int) - 1).toNat = k - 1 := by omega
        go_quiet (fail)
        clear e1 e2 e3
        go_wp2
        go_ret
        exact ⟨ret_bool (inc_bad h0 hlt HD.out).symm, hw.step _⟩
    · go_wp2
      go_ret
      exact ⟨ret_bool (inc_good (by omega) HP.out).symm, hw⟩

theorem rhas_any (v : Value) (xs : List Str) (s : Str) (w : World) (hr : Reads vs w v xs) :
    Calls Tryz.prog 75 #[v, vs s] w fun e w' => e = .returned (.bool (decide (s ∈ xs))) ∧ w = w' := by
  obtain ⟨ao, cap, rfl, hl, hm, hn, hx⟩ := hr
  unfold maxLen at hm
  unfold vs
  go_enter Tryz.func75, Tryz.ntmps75
  go_wp2
  go_loop [5] (fun i => ∃ k : Nat, k ≤ xs.length ∧ i = .int .i64 k ∧ ¬ s ∈ xs.take k) (fun i => xs.length - (intOf i).toNat)
  case atStart => exact ⟨0, by omega, rfl, by simp⟩
  case round =>
    obtain ⟨k, hk, rfl, hp⟩ := hrel
    have HP := Lib.hid hp
    clear hp
    by_cases hlt : k < xs.length
    · obtain ⟨b, off, rfl, hb, hc⟩ := hx (by intro e; subst e; simp at hlt)
      have h2 : w.cell? ⟨b, off + k, none⟩ = some (.string (toB xs[k])) := hc k hlt
      clear hc hx hn
      by_cases hd : xs[k] = s
      · have hB : ((toB xs[k]).toList == (toB s).toList) = true := by rw [beq_toB]; exact decide_eq_true hd
        have HD := Lib.hid hd
        clear hd
        go_wp2
        go_ret
        exact ⟨ret_bool (decide_eq_true (by rw [← HD.out]; exact List.getElem_mem _)).symm, rfl⟩
      · have hB : ((toB xs[k]).toList == (toB s).toList) = false := by rw [beq_toB]; exact decide_eq_false hd
        have HD := Lib.hid hd
        clear hd
        go_wp2
        go_round
        case rel => exact ⟨k + 1, by omega, by go_num, by rw [List.take_succ_eq_append_getElem hlt]; simp only [List.mem_append, List.mem_singleton]; exact fun h => h.elim HP.out (fun e => HD.out e.symm)⟩
        case measure => simp [intOf]; omega
    · go_wp2
      go_ret
      exact ⟨ret_bool (decide_eq_false (by have := HP.out; rwa [List.take_of_length_le (by omega)] at this)).symm, rfl⟩
end Go.Proofs.YtjijlhjggpibjaaGreat
