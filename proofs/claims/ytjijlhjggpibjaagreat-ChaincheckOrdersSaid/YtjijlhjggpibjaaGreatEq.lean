/-
  slices.Equal of strings, and slices.Sort of a row of the call's own.
-/
import Derived.Test.YtjijlhjggpibjaaGreatH4
import Derived.Sort.OwnSorted
namespace Go.Proofs.YtjijlhjggpibjaaGreat
open Go.RowKit Go.Sort

theorem equal_any (v u : Value) (xs ys : List Str) (w : World) (hr : Reads vs w v xs) (hs : Reads vs w u ys) :
    Calls Tryz.prog 28 #[v, u] w fun e w' => e = .returned (.bool (decide (xs = ys))) ∧ Drew w w' := by
  obtain ⟨ao, cap, rfl, hl, hm, hn, hx⟩ := hr
  obtain ⟨ao', cap', rfl, hl', hm', hn', hx'⟩ := hs
  unfold maxLen at hm hm'
  by_cases hnm : xs.length = ys.length
  · have HN := Lib.hid hnm
    rw [← hnm]
    rw [← hnm] at hl'
    clear hnm
    go_enter Tryz.func28, Tryz.ntmps28
    go_wp2
    go_loopw [13] (fun i wr => ∃ k : Nat, k ≤ xs.length ∧ i = .int .i64 k ∧ xs.take k = ys.take k ∧ Drew w wr) (fun i _ => xs.length - (intOf i).toNat)
    case atStart => exact ⟨0, by omega, rfl, by simp, Drew.refl _⟩
    case round =>
      obtain ⟨k, hk, rfl, hp, hw⟩ := hrel
      have HP := Lib.hid hp
      clear hp
      by_cases hlt : k < xs.length
      · have hlt' : k < ys.length := by rw [← HN.out]; exact hlt
        obtain ⟨b, off, rfl, hb, hc⟩ := hx (by intro e; subst e; simp at hlt)
        obtain ⟨b', off', rfl, hb', hc'⟩ := hx' (by intro e; subst e; simp at hlt')
        have h1 : wr.cell? ⟨b, off + k, none⟩ = some (.string (toB xs[k])) := (hw.cell _).trans (hc k hlt)
        have h2 : wr.cell? ⟨b', off' + k, none⟩ = some (.string (toB ys[k])) := (hw.cell _).trans (hc' k hlt')
        clear hc hx hn hc' hx' hn'
        by_cases hd : xs[k] = ys[k]
        · have hB : ((toB xs[k]).toList != (toB ys[k]).toList) = false := by rw [bne, beq_toB, decide_eq_true hd]; rfl
          have hB2 : ((toB xs[k]).toList == (toB ys[k]).toList) = true := by rw [beq_toB]; exact decide_eq_true hd
          have HD := Lib.hid hd
          clear hd
          go_wp2
          go_quiet (fail)
          go_wp2
          go_roundw
          case rel => exact ⟨k + 1, by omega, by go_num, by rw [List.take_succ_eq_append_getElem hlt, List.take_succ_eq_append_getElem hlt', HP.out, HD.out], hw.step _⟩
          case measure => simp [intOf]; omega
        · have hB : ((toB xs[k]).toList != (toB ys[k]).toList) = true := by rw [bne, beq_toB, decide_eq_false hd]; rfl
          have hB2 : ((toB xs[k]).toList == (toB ys[k]).toList) = false := by rw [beq_toB]; exact decide_eq_false hd
          have HD := Lib.hid hd
          clear hd
          go_wp2
          go_quiet (fail)
          go_wp2
          go_ret
          exact ⟨ret_bool (decide_eq_false (fun e => HD.out (by subst e; rfl))).symm, hw.step _⟩
      · go_wp2
        go_ret
        refine ⟨ret_bool (decide_eq_true ?_).symm, hw⟩
        have := HP.out
        rwa [List.take_of_length_le (by omega), List.take_of_length_le (by rw [← HN.out]; omega)] at this
  · have hne : ((xs.length : Int) != (ys.length : Int)) = true := by rw [bne_iff_ne]; omega
    go_enter Tryz.func28, Tryz.ntmps28
    go_wp2
    go_ret
    exact ⟨ret_bool (decide_eq_false (fun e => hnm (by rw [e]))).symm, Drew.refl _⟩


theorem map_enc (xs : List Str) : xs.map encStr = xs.map vs := List.map_congr_left fun s _ => vs_enc s
/-- A row of the call's own, sorted in place. -/
theorem sort_own (v : Value) (base n : Nat) (xs : List Str) (w : World) (h : w.ownsRow base 9 1 v n (xs.map vs)) (hn : n ≤ 4611686018427387903) : Calls Tryz.prog 54 #[v] w fun e w' =>
    e = .returned (.tuple #[]) ∧ w'.ownsRow base 9 1 v n ((xs.mergeSort fun x y => decide (x ≤ y)).map vs) ∧ w.grownBy w' v.ownBlock := by
  have hl : xs.length = n := by simpa using h.1
  rcases h.2 with ⟨rfl, h0⟩ | ⟨g, cap, cur, rfl, hb, hg, hnc, hm, hs, ht⟩
  · subst h0
    have hx : xs = [] := List.length_eq_zero_iff.1 hl
    subst hx
    refine (Tryz.slices_Sort_string_none none 0 w).mono ?_
    rintro e w' ⟨rfl, rfl⟩
    exact ⟨rfl, by rw [List.mergeSort_nil]; exact h, ⟨rfl, rfl, rfl, Nat.le_refl _, fun _ _ _ => rfl⟩⟩
  · have hgl : g < w.heap.size := (Array.getElem?_eq_some_iff.1 hg).1
    have hH : Holds encStr w g 0 xs.toArray := by
      rcases (Lib.holds_of_ownsRow (w := w) (by rw [map_enc]; exact h) (by simp)) with ⟨g', cap', hv, _, _, _, _, _, hH⟩
      injection hv with hv
      injection hv with hv
      injection hv with hv
      subst hv
      exact hH
    have hsort := Tryz.slices_Sort_string g 0 cap xs w hH hgl (by omega)
    rw [hl] at hsort
    refine hsort.mono ?_
    rintro e w' ⟨rfl, q, os, rfl⟩
    subst hl
    have hr := ownsRow_sorted (n := q) (os := os) (ss := xs) (ts := xs.mergeSort fun x y => decide (x ≤ y)) (List.length_mergeSort xs) hb hg hnc hm hs
    rw [map_enc] at hr
    exact ⟨rfl, hr, grownBy_sorted _⟩
end Go.Proofs.YtjijlhjggpibjaaGreat
