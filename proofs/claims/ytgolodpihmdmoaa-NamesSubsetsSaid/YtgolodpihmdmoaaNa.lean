/-
  Chapter 02: bytes of words, valid names: the plain functions and the walks of wordByte, letter, Valid (program and reference).
-/
import Derived.Test.YtgolodpihmdmoaaLb
namespace Go.Proofs.Ytgolodpihmdmoaa
open Go.RowKit

def wb (c : UInt8) : Bool := (decide ((97 : Int) ≤ (c.toNat : Int)) && decide ((c.toNat : Int) ≤ 122)) || (decide ((48 : Int) ≤ (c.toNat : Int)) && decide ((c.toNat : Int) ≤ 57)) || ((c.toNat : Int) == 45)

theorem wordByte_any (c : UInt8) (w : World) :
    Calls Try.prog 37 #[.int .u8 (c.toNat : Int)] w fun e w' => e = .returned (.bool (wb c)) ∧ w = w' := by
  go_enter Try.func37, Try.ntmps37
  go_wp2
  all_goals (go_ret; refine ⟨ret_bool ?_, rfl⟩; unfold wb; rw [Bool.eq_iff_iff]; simp; omega)

theorem letter_any (c : UInt8) (w : World) :
    Calls Try.prog 38 #[.int .u8 (c.toNat : Int)] w fun e w' => e = .returned (.bool (wb c)) ∧ w = w' := by
  go_enter Try.func38, Try.ntmps38
  go_wp2
  all_goals (go_ret; refine ⟨ret_bool ?_, rfl⟩; unfold wb; rw [Bool.eq_iff_iff]; simp; omega)

/-- The bytes of a string that is a name. -/
def validL (l : List UInt8) : Bool := decide (1 ≤ l.length) && decide (l.length ≤ 16) && (match l with | [] => false | c :: _ => decide ((97 : Int) ≤ (c.toNat : Int)) && decide ((c.toNat : Int) ≤ 122)) && l.all wb

theorem take_snoc (s : ByteArray) (k : Nat) (h : k < s.size) : s.data.toList.take (k + 1) = s.data.toList.take k ++ [s[k]] := by
  rw [List.take_succ_eq_append_getElem (by simpa using h)]; rfl

theorem all_snoc (s : ByteArray) (k : Nat) (h : k < s.size) : (s.data.toList.take (k + 1)).all wb = ((s.data.toList.take k).all wb && wb s[k]) := by
  rw [take_snoc s k h, List.all_append]; simp

theorem validL_def (l : List UInt8) : validL l = (decide (1 ≤ l.length) && decide (l.length ≤ 16) && (match l with | [] => false | c :: _ => decide ((97 : Int) ≤ (c.toNat : Int)) && decide ((c.toNat : Int) ≤ 122)) && l.all wb) := rfl

theorem validL_bad {l : List UInt8} (h : l.length < 1 ∨ 16 < l.length) : validL l = false := by
  rw [validL_def]
  rcases h with h | h
  · rw [decide_eq_false (show ¬ 1 ≤ l.length by omega)]; simp
  · rw [decide_eq_false (show ¬ l.length ≤ 16 by omega)]; simp

theorem validL_cons (c : UInt8) (r : List UInt8) : validL (c :: r) = (decide (r.length + 1 ≤ 16) && (decide ((97 : Int) ≤ (c.toNat : Int)) && decide ((c.toNat : Int) ≤ 122)) && (c :: r).all wb) := by
  rw [validL_def]; simp [-List.all_cons]

theorem bytes_cons (s : ByteArray) (h0 : 0 < s.size) : ∃ r, s.data.toList = s[0] :: r := by
  have h : 0 < s.data.toList.length := by simpa using h0
  have e : s[0] = s.data.toList[0] := rfl
  rw [e]
  exact ⟨s.data.toList.drop 1, by simpa using (List.drop_eq_getElem_cons h)⟩

theorem valid_bad {s : ByteArray} (h : s.size < 1 ∨ 16 < s.size) : validL s.data.toList = false := validL_bad h

theorem valid_head {s : ByteArray} (h0 : 0 < s.size) (h : (s[0].toNat : Int) < 97 ∨ (122 : Int) < (s[0].toNat : Int)) : validL s.data.toList = false := by
  obtain ⟨r, hr⟩ := bytes_cons s h0
  rw [hr, validL_cons]
  have : (decide ((97 : Int) ≤ (s[0].toNat : Int)) && decide ((s[0].toNat : Int) ≤ 122)) = false := by simp; omega
  rw [this]; simp

theorem valid_word {s : ByteArray} (k : Nat) (h : k < s.size) (hb : wb s[k] = false) : validL s.data.toList = false := by
  rw [validL_def]
  have : s.data.toList.all wb = false := by
    rw [List.all_eq_false]
    exact ⟨s[k], by show s.data.toList[k]'(by simpa using h) ∈ _; exact List.getElem_mem _, by simp [hb]⟩
  rw [this, Bool.and_false]

theorem valid_good {s : ByteArray} (h0 : 0 < s.size) (h16 : s.size ≤ 16) (ha : (97 : Int) ≤ (s[0].toNat : Int)) (hz : (s[0].toNat : Int) ≤ 122) (hall : s.data.toList.all wb = true) : validL s.data.toList = true := by
  obtain ⟨r, hr⟩ := bytes_cons s h0
  have hl : s.data.toList.length ≤ 16 := h16
  rw [hr] at hall hl ⊢
  rw [validL_cons, hall, decide_eq_true ha, decide_eq_true hz, decide_eq_true (show r.length + 1 ≤ 16 by simpa using hl)]; rfl

theorem valid_any (s : ByteArray) (w : World) (hs : s.size ≤ maxLen) :
    Calls Try.prog 13 #[.string s] w fun e w' => e = .returned (.bool (validL s.data.toList)) ∧ w = w' := by
  unfold maxLen at hs
  by_cases h1 : s.size < 1
  · have h2 : ((s.size : Int) == 0) = true := beq_iff_eq.2 (by omega)
    go_enter Try.func13, Try.ntmps13
    go_wp2
    go_ret
    exact ⟨ret_bool (valid_bad (.inl h1)).symm, rfl⟩
  have h1' : ((s.size : Int) == 0) = false := beq_eq_false_iff_ne.2 (by omega)
  by_cases h2 : 16 < s.size
  · go_enter Try.func13, Try.ntmps13
    go_wp2
    go_ret
    exact ⟨ret_bool (valid_bad (.inr h2)).symm, rfl⟩
  have h2' : ¬ (16 < (s.size : Int)) := by omega
  have h0 : 0 < s.size := by omega
  by_cases h3 : (s[0].toNat : Int) < 97
  · go_enter Try.func13, Try.ntmps13
    go_wp2
    go_ret
    exact ⟨ret_bool (valid_head h0 (.inl h3)).symm, rfl⟩
  by_cases h4 : (122 : Int) < (s[0].toNat : Int)
  · go_enter Try.func13, Try.ntmps13
    go_wp2
    go_ret
    exact ⟨ret_bool (valid_head h0 (.inr h4)).symm, rfl⟩
  go_enter Try.func13, Try.ntmps13
  go_wp2
  go_loop [24] (fun i => ∃ k : Nat, k ≤ s.size ∧ i = .int .i64 k ∧ (s.data.toList.take k).all wb = true) (fun i => s.size - (intOf i).toNat)
  case atStart => exact ⟨0, Nat.zero_le _, rfl, rfl⟩
  case round =>
    obtain ⟨k, hk, rfl, hall⟩ := hrel
    have HA := Lib.hid hall
    clear hall
    by_cases hlt : k < s.size
    · by_cases hb : wb s[k] = true
      · go_wp2_with (go_at_call 37; refine (wordByte_any _ _).mono ?_; rintro e w' ⟨rfl, rfl⟩)
        go_round
        case rel => exact ⟨k + 1, by omega, by go_num, by rw [all_snoc s k hlt, HA.out, hb]; rfl⟩
        case measure => simp [intOf]; omega
      · have hb' : wb s[k] = false := by simpa using hb
        go_wp2_with (go_at_call 37; refine (wordByte_any _ _).mono ?_; rintro e w' ⟨rfl, rfl⟩)
        go_ret
        exact ⟨ret_bool (valid_word k hlt hb').symm, rfl⟩
    · go_wp2
      go_ret
      refine ⟨ret_bool (valid_good h0 (by omega) (by omega) (by omega) ?_).symm, rfl⟩
      have := HA.out
      rwa [List.take_of_length_le (by show s.size ≤ k; omega)] at this
theorem rvalid_any (s : ByteArray) (w : World) (hs : s.size ≤ maxLen) :
    Calls Try.prog 14 #[.string s] w fun e w' => e = .returned (.bool (validL s.data.toList)) ∧ w = w' := by
  unfold maxLen at hs
  by_cases h1 : s.size < 1
  · go_enter Try.func14, Try.ntmps14
    go_wp2
    go_ret
    exact ⟨ret_bool (valid_bad (.inl h1)).symm, rfl⟩
  have h1' : ¬ ((s.size : Int) < 1) := by omega
  by_cases h2 : 16 < s.size
  · go_enter Try.func14, Try.ntmps14
    go_wp2
    go_ret
    exact ⟨ret_bool (valid_bad (.inr h2)).symm, rfl⟩
  have h2' : ¬ (16 < (s.size : Int)) := by omega
  have h0 : 0 < s.size := by omega
  by_cases h3 : (s[0].toNat : Int) < 97
  · go_enter Try.func14, Try.ntmps14
    go_wp2
    go_ret
    exact ⟨ret_bool (valid_head h0 (.inl h3)).symm, rfl⟩
  by_cases h4 : (122 : Int) < (s[0].toNat : Int)
  · go_enter Try.func14, Try.ntmps14
    go_wp2
    go_ret
    exact ⟨ret_bool (valid_head h0 (.inr h4)).symm, rfl⟩
  go_enter Try.func14, Try.ntmps14
  go_wp2
  go_loop [3] (fun i => ∃ k : Nat, k ≤ s.size ∧ i = .int .i64 k ∧ (s.data.toList.take k).all wb = true) (fun i => s.size - (intOf i).toNat)
  case atStart => exact ⟨0, Nat.zero_le _, rfl, rfl⟩
  case round =>
    obtain ⟨k, hk, rfl, hall⟩ := hrel
    have HA := Lib.hid hall
    clear hall
    by_cases hlt : k < s.size
    · by_cases hb : wb s[k] = true
      · go_wp2_with (go_at_call 38; refine (letter_any _ _).mono ?_; rintro e w' ⟨rfl, rfl⟩)
        go_round
        case rel => exact ⟨k + 1, by omega, by go_num, by rw [all_snoc s k hlt, HA.out, hb]; rfl⟩
        case measure => simp [intOf]; omega
      · have hb' : wb s[k] = false := by simpa using hb
        go_wp2_with (go_at_call 38; refine (letter_any _ _).mono ?_; rintro e w' ⟨rfl, rfl⟩)
        go_ret
        exact ⟨ret_bool (valid_word k hlt hb').symm, rfl⟩
    · go_wp2
      go_ret
      refine ⟨ret_bool (valid_good h0 (by omega) (by omega) (by omega) ?_).symm, rfl⟩
      have := HA.out
      rwa [List.take_of_length_le (by show s.size ≤ k; omega)] at this
end Go.Proofs.Ytgolodpihmdmoaa
