/-
  Chapter 39: Valid and Is of the reference of layer 31.
-/
import Derived.Test.YtahpecbcpgjinaaCd
namespace Go.Proofs.Ytahpecbcpgjinaa
open Go.RowKit

set_option maxHeartbeats 1000000 in
theorem rvalid_any (M : Int) (v : Value) (xs : List Int) (w : World) (hr : Reads vi w v xs) :
    Calls Try.prog 65 #[.int .i64 M, v] w fun e w' => e = .returned (.bool (validQ M xs)) ∧ Drew w w' := by
  obtain ⟨ao, cap, rfl, hl, hm, hn, hx⟩ := hr
  unfold maxLen at hm
  rw [valid_split]
  by_cases hM : M = 1 ∨ M = 2
  · have e0 : ((M != 1) && (M != 2)) = false := by rcases hM with rfl | rfl <;> rfl
    by_cases h1 : 1 ≤ xs.length
    · by_cases h2 : xs.length ≤ 12
      · rw [show sizedB M xs.length = true from decide_eq_true ⟨hM, h1, h2⟩, Bool.true_and]
        have HXX := Lib.hid hx
        clear e0 hx hn
        rcases hM with rfl | rfl
        all_goals
          go_enter Try.func65, Try.ntmps65
          go_wp2
          go_loopg [5] xs.length (fun m i wr => ∃ (k : Nat) (L : Int), m + k = xs.length ∧ i = .int .i64 k ∧ okTo 12 xs k L ∧ Drew w wr)
          case atStart => exact ⟨0, -1, by omega, rfl, okTo_start _ _, Drew.refl _⟩
          case round =>
            obtain ⟨k, L, hmk, rfl, hp, hw⟩ := hrel
            have HP := Lib.hid (And.intro hp hmk)
            have hk : k ≤ xs.length := by omega
            clear hp hmk
            by_cases hlt : k < xs.length
            · obtain ⟨b, off, rfl, hb, hc⟩ := HXX.out (by intro e; subst e; simp at hlt)
              have hc1 : wr.cell? ⟨b, off + k, none⟩ = some (.int .i64 xs[k]) := (hw.cell _).trans (hc k hlt)
              have HA := Lib.hid (@okTo_step 12 xs k L HP.out.1 hlt)
              have HB := Lib.hid (@okTo_bad 12 xs k L HP.out.1 hlt)
              by_cases hk0 : k = 0
              · have hL : L = -1 := by
                  obtain ⟨_, _, _, d⟩ := HP.out.1
                  rcases d with d | d
                  · exact d
                  · subst hk0; simp at d
                have z1 : decide (0 < k) = false := decide_eq_false (by omega)
                have z2 : decide ((0 : Int) < (k : Int)) = false := decide_eq_false (by omega)
                have HL := Lib.hid hL
                clear hc hk0 hL
                generalize xs[k] = x at *
                by_cases a1 : x < 0
                · go_wp2
                  go_quiet (fail)
                  go_wp2
                  go_ret
                  exact ⟨ret_bool (HB.out (.inl (by have := HL.out; omega))).symm, hw.step _⟩
                · have a1' := decide_eq_false a1
                  by_cases a2 : 12 ≤ x
                  · go_wp2
                    go_quiet (fail)
                    go_wp2
                    go_ret
                    exact ⟨ret_bool (HB.out (.inr a2)).symm, hw.step _⟩
                  · have a2' := decide_eq_false a2
                    go_wp2
                    go_quiet (fail)
                    go_wp2
                    go_roundg (xs.length - (k + 1))
                    case measure => have := HP.out.2; omega
                    case rel => exact ⟨k + 1, x, by omega, by go_num, HA.out (by have := HL.out; omega) (by omega), hw.step _⟩
              · have hk1 : 0 < k := by omega
                clear hk0
                have hc2 : wr.cell? ⟨b, off + (k - 1), none⟩ = some (.int .i64 xs[k - 1]) := (hw.cell _).trans (hc (k - 1) (by omega))
                have HL := Lib.hid (okTo_last HP.out.1 hk1 hk)
                have hk2 : (1 : Int) ≤ k := by omega
                have hk3 : (0 : Int) < k := by omega
                have hk4 : ((k : Int) - 1) < xs.length := by omega
                clear hc
                generalize xs[k] = x at *
                generalize xs[k - 1] = y at *
                by_cases a1 : x < 0
                · go_wp2
                  go_quiet (fail)
                  go_wp2
                  go_ret
                  exact ⟨ret_bool (HB.out (.inl (by have := HP.out.1.2.2.1; omega))).symm, hw.step _⟩
                · have a1' := decide_eq_false a1
                  by_cases a2 : 12 ≤ x
                  · go_wp2
                    go_quiet (fail)
                    go_wp2
                    go_ret
                    exact ⟨ret_bool (HB.out (.inr a2)).symm, hw.step _⟩
                  · have a2' := decide_eq_false a2
                    by_cases a3 : x ≤ y
                    · go_wp2
                      have e1 : IntKind.i64.wrap ((k : Int) - 1) = (k : Int) - 1 := IntWalk.i64_in _ (by omega)
                      have e2 : (0 : Int) ≤ (k : Int) - 1 := by omega
                      have e3 : ((k : Int) - 1).toNat = k - 1 := by omega
                      go_quiet (fail)
                      clear e1 e2 e3
                      go_wp2
                      go_ret
                      exact ⟨ret_bool (HB.out (.inl (by have := HL.out; omega))).symm, hw.step _⟩
                    · have a3' := decide_eq_false a3
                      go_wp2
                      have e1 : IntKind.i64.wrap ((k : Int) - 1) = (k : Int) - 1 := IntWalk.i64_in _ (by omega)
                      have e2 : (0 : Int) ≤ (k : Int) - 1 := by omega
                      have e3 : ((k : Int) - 1).toNat = k - 1 := by omega
                      go_quiet (fail)
                      clear e1 e2 e3
                      go_wp2
                      go_roundg (xs.length - (k + 1))
                      case measure => have := HP.out.2; omega
                      case rel => exact ⟨k + 1, x, by omega, by go_num, HA.out (by have := HL.out; omega) (by omega), hw.step _⟩
            · go_wp2
              go_ret
              exact ⟨ret_bool (okTo_all HP.out.1 (by omega)).symm, hw⟩
      · rw [show sizedB M xs.length = false from decide_eq_false (fun h => by omega), Bool.false_and]
        clear hx hn
        rcases hM with rfl | rfl
        all_goals
          go_enter Try.func65, Try.ntmps65
          go_wp2
          go_ret
          exact ⟨rfl, Drew.refl _⟩
    · rw [show sizedB M xs.length = false from decide_eq_false (fun h => by omega), Bool.false_and]
      clear hx hn
      rcases hM with rfl | rfl
      all_goals
        go_enter Try.func65, Try.ntmps65
        go_wp2
        go_ret
        exact ⟨rfl, Drew.refl _⟩
  · rw [show sizedB M xs.length = false from decide_eq_false (fun h => hM h.1), Bool.false_and]
    have e1 := bne_t (fun h => hM (.inl h))
    have e2 := bne_t (fun h => hM (.inr h))
    clear hx hn hM
    go_enter Try.func65, Try.ntmps65
    go_wp2
    go_ret
    exact ⟨rfl, Drew.refl _⟩

def BoolMade (w : World) (r : Bool) (e : Ending) (w' : World) : Prop := e = .returned (.bool r) ∧ Below w.heap.size w w'

theorem partL_len (xs ys : List Int) : (partL xs ys true).length = insideL xs ys := by
  unfold partL insideL
  congr 1
  exact List.filter_congr fun r _ => by simp

theorem risq_any (M : Int) (v u : Value) (xs ys : List Int) (w : World) (hr : Reads vi w v xs) (hq : Reads vi w u ys) (hn : xs.length ≤ 1000000) :
    Calls Try.prog 48 #[.int .i64 M, v, u] w (BoolMade w (isQ M xs ys)) := by
  have hv := rvalid_any M v xs w hr
  have hR := Lib.hid (And.intro hr hq)
  unfold isQ
  have hl := partL_len xs ys
  have hlen := hr.len
  obtain ⟨ao, cap, rfl, _, _, _, _⟩ := hr
  clear hq
  by_cases h : validQ M xs = true
  · rw [h] at hv
    rw [h, Bool.true_and]
    have HS := Lib.hid (And.intro hv hl)
    clear hv h hl
    go_enter Try.func48, Try.ntmps48
    go_wp2_with fail
    refine HS.out.1.mono ?_
    rintro e w1 ⟨rfl, hd⟩
    have HD := Lib.hid hd
    clear hd
    go_wp2_with fail
    refine (part_any _ u xs ys true w1 (hR.out.1.keep HD.out.below) (hR.out.2.keep HD.out.below) hn).mono ?_
    rintro e w2 ⟨v2, rfl, hr2, hb2⟩
    have hpl := HS.out.2
    have hnd := rneed_any M xs.length w2 hlen
    generalize insideL xs ys = a at *
    generalize needN M xs.length = b at *
    have HB := Lib.hid (And.intro hnd (HD.out.below.trans (hb2.mono (Nat.le_of_eq HD.out.size.symm))))
    obtain ⟨ao2, cap2, rfl, _, hm2, _, _⟩ := hr2
    rw [hpl]
    rw [hpl] at *
    clear hnd hb2 hpl
    unfold maxLen at hm2
    go_wp2_with fail
    refine HB.out.1.mono ?_
    rintro e w3 ⟨rfl, rfl⟩
    go_wp2
    go_ret
    exact ⟨rfl, HB.out.2⟩
  · have hf := Bool.eq_false_iff.2 h
    rw [hf] at hv
    rw [hf, Bool.false_and]
    have HS := Lib.hid hv
    clear hv h hf hl
    go_enter Try.func48, Try.ntmps48
    go_wp2_with fail
    refine HS.out.mono ?_
    rintro e w1 ⟨rfl, hd⟩
    have HD := Lib.hid hd
    clear hd
    go_wp2
    go_ret
    exact ⟨rfl, HD.out.below⟩
end Go.Proofs.Ytahpecbcpgjinaa
