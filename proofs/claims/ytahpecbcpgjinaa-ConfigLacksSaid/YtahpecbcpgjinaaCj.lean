/-
  Chapter 39: equality of commands.
-/
import Derived.Test.YtahpecbcpgjinaaCi
namespace Go.Proofs.Ytahpecbcpgjinaa
open Go.RowKit

abbrev ReadsW (w : World) (v : Value) (xs : List (Str × Str)) : Prop := ReadsK 2 WriteE w v xs
theorem ReadsW.on {w w' : World} {v : Value} {xs : List (Str × Str)} (h : ReadsW w v xs) (hb : Below w.heap.size w w') : ReadsW w' v xs := ReadsK.keep keepsWrite h hb
theorem ReadsW.at_ {w : World} {v : Value} {xs : List (Str × Str)} (h : ReadsW w v xs) {k : Nat} (hk : k < xs.length) : ∃ b off cap vd, v = .slice (some ⟨b, off, none⟩) xs.length cap ∧ b < w.heap.size ∧
    w.cell? ⟨b, off + k * 2, none⟩ = some (.string (toB xs[k].1)) ∧ w.cell? ⟨b, off + k * 2 + 1, none⟩ = some vd ∧ Reads vb w vd xs[k].2 := by
  obtain ⟨ao, cap, rfl, hl, hm, hn, hx⟩ := h
  obtain ⟨b, off, rfl, hb, hc⟩ := hx (by intro e; subst e; simp at hk)
  obtain ⟨cs, _, hcell, vd, rfl, h1⟩ := hc k hk
  exact ⟨b, off, cap, vd, rfl, hb, hcell 0 _ rfl, hcell 1 _ rfl, h1⟩

theorem take_eq {α : Type} {xs ys : List α} {k : Nat} (h1 : k < xs.length) (h2 : k < ys.length) (hp : xs.take k = ys.take k) (he : xs[k] = ys[k]) : xs.take (k + 1) = ys.take (k + 1) := by
  rw [List.take_succ_eq_append_getElem h1, List.take_succ_eq_append_getElem h2, hp, he]
theorem take_ne {α : Type} [DecidableEq α] {xs ys : List α} {k : Nat} (h1 : k < xs.length) (h2 : k < ys.length) (he : ¬ xs[k] = ys[k]) : decide (xs = ys) = false :=
  decide_eq_false fun e => he (by subst e; rfl)
theorem take_all {α : Type} [DecidableEq α] {xs ys : List α} {k : Nat} (hl : xs.length = ys.length) (h : xs.length ≤ k) (hp : xs.take k = ys.take k) : decide (xs = ys) = true := by
  rw [List.take_of_length_le h, List.take_of_length_le (by omega)] at hp; exact decide_eq_true hp

set_option maxRecDepth 100000 in
set_option maxHeartbeats 1000000 in
theorem equalFunc_any (v u : Value) (xs ys : List (Str × Str)) (w : World) (hr : ReadsW w v xs) (hq : ReadsW w u ys) :
    Calls Try.prog 71 #[v, u, .func (.func 72) #[] #[]] w (BoolMade w (decide (xs = ys))) := by
  have HR := Lib.hid (And.intro hr hq)
  obtain ⟨ao, cap, rfl, hl, hm, hn, hx⟩ := hr
  obtain ⟨ao', cap', rfl, hl', hm', hn', hx'⟩ := hq
  unfold maxLen at hm hm'
  clear hn hx hn' hx'
  by_cases hnm : xs.length = ys.length
  · have HN := Lib.hid hnm
    rw [← hnm]
    rw [← hnm] at hl'
    clear hnm
    go_enter Try.func71, Try.ntmps71
    go_wp2
    go_loopg [17] xs.length (fun m i wr => ∃ k : Nat, m + k = xs.length ∧ i = .int .i64 k ∧ xs.take k = ys.take k ∧ Below w.heap.size w wr)
    case atStart => exact ⟨0, by omega, rfl, by simp, Below.refl _ _⟩
    case round =>
      obtain ⟨k, hmk, rfl, hp, hb⟩ := hrel
      have HP := Lib.hid (And.intro hp (And.intro hmk hb))
      have hk : k ≤ xs.length := by omega
      clear hp hmk hb
      by_cases hlt : k < xs.length
      · have hlt' : k < ys.length := by rw [← HN.out]; exact hlt
        obtain ⟨b, off, c1, vd, hv, hb, x0, x1, xr⟩ := (HR.out.1.on HP.out.2.2).at_ hlt
        obtain ⟨b', off', c2, ud, hv', hb', y0, y1, yr⟩ := (HR.out.2.on HP.out.2.2).at_ hlt'
        injection hv with e1 e2 e3
        injection hv' with e1' e2' e3'
        subst e1
        subst e1'
        have hte := @take_eq _ xs ys k hlt hlt' HP.out.1
        have htn := @take_ne _ _ xs ys k hlt hlt'
        obtain ⟨s1, n1, k1, rfl⟩ := Slc.of_reads xr
        obtain ⟨s2, n2, k2, rfl⟩ := Slc.of_reads yr
        have hw := fun w' (h : Below wr.heap.size wr w') => wr_eq_any xs[k] ys[k] _ _ w' (xr.keep h) (yr.keep h)
        generalize xs[k] = x at *
        generalize ys[k] = y at *
        have HW := Lib.hid (And.intro hw (And.intro hte htn))
        clear hw hte htn xr yr e2 e2' e3 e3'
        by_cases hd : x = y
        · have HD := Lib.hid hd
          rw [decide_eq_true hd] at HW
          clear hd
          go_wp2_with fail
          refine (HW.out.1 _ (below_two _ _ _)).mono ?_
          rintro e w1 ⟨rfl, hb1⟩
          have hb2 := Lib.hid ((HP.out.2.2.trans ((below_two wr (.cells #[.string (toB x.1), .slice s1 n1 k1] 86) (.cells #[.string (toB y.1), .slice s2 n2 k2] 86)).mono HP.out.2.2.size)).trans (hb1.mono (by have := HP.out.2.2.size; simp; omega)))
          clear hb1
          go_wp2
          go_roundg (xs.length - (k + 1))
          case measure => have := HP.out.2.1; omega
          case rel => exact ⟨k + 1, by omega, by go_num, HW.out.2.1 HD.out, hb2.out⟩
        · have HD := Lib.hid hd
          rw [decide_eq_false hd] at HW
          clear hd
          go_wp2_with fail
          refine (HW.out.1 _ (below_two _ _ _)).mono ?_
          rintro e w1 ⟨rfl, hb1⟩
          have hb2 := Lib.hid ((HP.out.2.2.trans ((below_two wr (.cells #[.string (toB x.1), .slice s1 n1 k1] 86) (.cells #[.string (toB y.1), .slice s2 n2 k2] 86)).mono HP.out.2.2.size)).trans (hb1.mono (by have := HP.out.2.2.size; simp; omega)))
          clear hb1
          go_wp2
          go_ret
          exact ⟨ret_bool (HW.out.2.2 HD.out).symm, hb2.out⟩
      · go_wp2
        go_ret
        exact ⟨ret_bool (take_all HN.out (by omega) HP.out.1).symm, HP.out.2.2⟩
  · have hne : ((xs.length : Int) != (ys.length : Int)) = true := bne_t (by omega)
    go_enter Try.func71, Try.ntmps71
    go_wp2
    go_ret
    exact ⟨ret_bool (decide_eq_false (fun e => hnm (by rw [e]))).symm, Below.refl _ _⟩
end Go.Proofs.Ytahpecbcpgjinaa
