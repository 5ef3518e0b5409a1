/-
  Chapter 54: exactly.
-/
import Derived.Test.YtnpfalloelmflaaHd
namespace Go.Proofs.Ytnpfalloelmflaa
open Go.RowKit

def exactB (S xs : List Str) : Bool := decide (∀ s ∈ xs, s ∈ S) && decide ((ofL xs).length = (uniq S).length)
set_option maxRecDepth 100000 in
set_option maxHeartbeats 2000000 in
theorem exactly_any (v : Value) (xs : List Str) (b n : Nat) (S : List Str) (W : World) (hr : Reads vs W v xs) (hs : SetB W b n S) (_ : n ≤ 10000000) (hx : xs.length ≤ 1000000) (hl : ∀ s ∈ xs, s.length ≤ 1000000) :
    Calls Try.prog 38 #[.map (some b), v] W (BoolMade W (exactB S xs)) := by
  have HR := Lib.hid hr
  have HS := Lib.hid hs
  obtain ⟨ao, cap, rfl, hl1, hm, -, -⟩ := hr
  unfold maxLen at hm
  clear hs
  go_enter Try.func38, Try.ntmps38
  go_wp2
  go_loop [9] (fun i => ∃ k : Nat, k ≤ xs.length ∧ i = .int .i64 k ∧ ∀ s ∈ xs.take k, s ∈ S) (fun i => xs.length - (intOf i).toNat)
  case atStart => exact ⟨0, by omega, rfl, by simp⟩
  case round =>
    obtain ⟨k, hk, rfl, hall⟩ := hrel
    have HALL := Lib.hid hall
    clear hall
    by_cases hlt : k < xs.length
    · obtain ⟨b0, off, c0, hv, hb0, hc⟩ := str_at HR.out hlt
      injection hv with e1 e2 e3
      subst e1
      have hki : (k : Int) < xs.length := by omega
      have hk0 : (0 : Int) ≤ (k : Int) := by omega
      have hsl : xs[k].length ≤ maxLen := Nat.le_trans (hl _ (List.getElem_mem hlt)) (by unfold maxLen; omega)
      have hsn : xs[k] ∈ S → ∀ s ∈ xs.take (k + 1), s ∈ S := fun h1 s hs => by
        rw [List.take_succ_eq_append_getElem hlt] at hs
        rcases List.mem_append.1 hs with h2 | h2
        · exact HALL.out s h2
        · rw [List.mem_singleton.1 h2]; exact h1
      have HSN := Lib.hid hsn
      have HMEM := Lib.hid (List.getElem_mem hlt)
      unfold vs at hc
      clear e2 e3 hsn hl
      generalize xs[k] = s at *
      by_cases hin : s ∈ S
      · have HIN := Lib.hid (decide_eq_true hin)
        have HIN2 := Lib.hid hin
        clear hin
        go_wp2_with (refine wpList_lookup_set rfl (.tmp 13) (.tmp 14) rfl b n S s rfl HS.out rfl hsl HIN.out ?_)
        go_round
        case rel => exact ⟨k + 1, by omega, by go_num, HSN.out HIN2.out⟩
        case measure => simp [intOf]; omega
      · have HIN := Lib.hid (decide_eq_false hin)
        have HE : Hid (exactB S xs = false) := Lib.hid (by unfold exactB; rw [decide_eq_false (fun h => hin (h s HMEM.out))]; rfl)
        clear hin
        go_wp2_with (refine wpList_lookup_set rfl (.tmp 13) (.tmp 14) rfl b n S s rfl HS.out rfl hsl HIN.out ?_)
        go_ret
        exact ⟨ret_bool HE.out.symm, Below.refl _ _⟩
    · have hkk : k = xs.length := by omega
      subst hkk
      have hA : ∀ s ∈ xs, s ∈ S := by have := HALL.out; rwa [List.take_length] at this
      have HE : Hid (exactB S xs = decide ((ofL xs).length = (uniq S).length)) := Lib.hid (by unfold exactB; rw [decide_eq_true hA]; rfl)
      clear hA HALL hl
      have ho := of_any _ xs W HR.out (by omega)
      have hol := ofL_length xs
      have hul : (uniq S).length ≤ n := by
        obtain ⟨D, h1, _, _, h2⟩ := HS.out
        rw [← h2]; exact h1.size_le
      generalize ofL xs = ys at *
      have HO := Lib.hid ho
      clear ho
      by_cases hq : ys.length = (uniq S).length
      · have HQ := Lib.hid (HE.out.trans (decide_eq_true hq))
        have e1 : ((ys.length : Int) == ((uniq S).length : Int)) = true := beq_iff_eq.2 (by omega)
        clear hq
        go_wp2_with fail
        refine HO.out.mono ?_
        rintro e w2 ⟨v2, rfl, hown, hb2⟩
        obtain ⟨a2, c2, rfl⟩ := row_slc hown
        have HS2 := Lib.hid (HS.out.on hb2)
        have HB2 := Lib.hid hb2
        have hle : ys.length ≤ c2 ∧ c2 ≤ 2 ^ 63 - 1 := by
          obtain ⟨a, c, e, h1, h2, _⟩ := Reads.of_owns hown
          injection e with _ _ e3
          unfold maxLen at h2
          omega
        clear hown hb2
        go_wp2_with (refine wpList_len_set rfl (.tmp 21) rfl b n S rfl HS2.out ?_)
        go_ret
        exact ⟨ret_bool HQ.out.symm, HB2.out⟩
      · have HQ := Lib.hid (HE.out.trans (decide_eq_false hq))
        have e1 : ((ys.length : Int) == ((uniq S).length : Int)) = false := beq_eq_false_iff_ne.2 (by omega)
        clear hq
        go_wp2_with fail
        refine HO.out.mono ?_
        rintro e w2 ⟨v2, rfl, hown, hb2⟩
        obtain ⟨a2, c2, rfl⟩ := row_slc hown
        have HS2 := Lib.hid (HS.out.on hb2)
        have HB2 := Lib.hid hb2
        have hle : ys.length ≤ c2 ∧ c2 ≤ 2 ^ 63 - 1 := by
          obtain ⟨a, c, e, h1, h2, _⟩ := Reads.of_owns hown
          injection e with _ _ e3
          unfold maxLen at h2
          omega
        clear hown hb2
        go_wp2_with (refine wpList_len_set rfl (.tmp 21) rfl b n S rfl HS2.out ?_)
        go_ret
        exact ⟨ret_bool HQ.out.symm, HB2.out⟩
end Go.Proofs.Ytnpfalloelmflaa
