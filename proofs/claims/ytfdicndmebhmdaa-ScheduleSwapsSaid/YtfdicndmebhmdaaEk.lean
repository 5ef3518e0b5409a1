/-
  Chapter 29: Equivalent, and EqualFunc at same.
-/
import Derived.Test.YtfdicndmebhmdaaEj
namespace Go.Proofs.Ytfdicndmebhmdaa
open Go.RowKit

theorem take_eqE {xs ys : List Ev} {k : Nat} (h1 : k < xs.length) (h2 : k < ys.length) (hp : xs.take k = ys.take k) (he : xs[k] = ys[k]) : xs.take (k + 1) = ys.take (k + 1) := by
  rw [List.take_succ_eq_append_getElem h1, List.take_succ_eq_append_getElem h2, hp, he]
theorem take_neE {xs ys : List Ev} {k : Nat} (h1 : k < xs.length) (h2 : k < ys.length) (he : ¬ xs[k] = ys[k]) : decide (xs = ys) = false :=
  decide_eq_false fun e => he (by subst e; rfl)
theorem take_allE {xs ys : List Ev} {k : Nat} (hl : xs.length = ys.length) (h : xs.length ≤ k) (hp : xs.take k = ys.take k) : decide (xs = ys) = true := by
  rw [List.take_of_length_le h, List.take_of_length_le (by omega)] at hp; exact decide_eq_true hp
set_option maxRecDepth 100000 in
set_option maxHeartbeats 2000000 in
theorem equalFunc_any (v u : Value) (xs ys : List Ev) (w : World) (hr : ReadsE w v xs) (hq : ReadsE w u ys) :
    Calls Try.prog 39 #[v, u, .func (.func 40) #[] #[]] w (BoolMade w (decide (xs = ys))) := by
  have HR := Lib.hid (And.intro hr hq)
  obtain ⟨ao, cap, rfl, hl, hm, hn, hx⟩ := hr
  obtain ⟨ao', cap', rfl, hl', hm', hn', hx'⟩ := hq
  unfold maxLen at hm hm'
  clear hn hx hn' hx'
  by_cases hnm : xs.length = ys.length
  · have HN := Lib.hid hnm
    rw [← hnm]
    rw [← hnm] at hl'
    clear hnm
    go_enter Try.func39, Try.ntmps39
    go_wp2
    go_loopg [17] xs.length (fun m i wr => ∃ k : Nat, m + k = xs.length ∧ i = .int .i64 k ∧ xs.take k = ys.take k ∧ Below w.heap.size w wr)
    case atStart => exact ⟨0, by omega, rfl, by simp, Below.refl _ _⟩
    case round =>
      obtain ⟨k, hmk, rfl, hp, hb⟩ := hrel
      have HP := Lib.hid (And.intro hp (And.intro hmk hb))
      have hk : k ≤ xs.length := by omega
      clear hp hmk hb
      by_cases hlt : k < xs.length
      · have hlt' : k < ys.length := by rw [← HN.out]; exact hlt
        obtain ⟨b, off, c1, s1, k1, hv, hcell, xr⟩ := (HR.out.1.on HP.out.2.2).at2 hlt
        obtain ⟨b', off', c2, s2, k2, hv', hcell', yr⟩ := (HR.out.2.on HP.out.2.2).at2 hlt'
        injection hv with e1 e2 e3
        injection hv' with e1' e2' e3'
        subst e1
        subst e1'
        have hte := @take_eqE xs ys k hlt hlt' HP.out.1
        have htn := @take_neE xs ys k hlt hlt'
        have x0 := (hcell wr (Below.refl _ _)).1
        have x1 := (hcell wr (Below.refl _ _)).2
        have y0 := (hcell' wr (Below.refl _ _)).1
        have y1 := (hcell' wr (Below.refl _ _)).2
        have bl1 : b < wr.heap.size := block_lt_of_cell x0
        have bl2 : b' < wr.heap.size := block_lt_of_cell y0
        have hw := fun w' (h : Below wr.heap.size wr w') => same_any _ _ xs[k] ys[k] w' ⟨_, rfl, xr.keep h⟩ ⟨_, rfl, yr.keep h⟩
        unfold evV at hw
        clear hcell hcell' xr yr
        generalize xs[k] = x at *
        generalize ys[k] = y at *
        have HW := Lib.hid (And.intro hw (And.intro hte htn))
        clear hw hte htn e2 e2' e3 e3'
        by_cases hd : x = y
        · have HD := Lib.hid hd
          rw [decide_eq_true hd] at HW
          clear hd
          go_wp2_with fail
          refine (HW.out.1 _ (below_two _ _ _)).mono ?_
          rintro e w1 ⟨rfl, hb1⟩
          have hb2 := Lib.hid ((HP.out.2.2.trans ((below_two wr (.cells #[.int .i64 x.1, .slice s1 x.2.length k1] 29) (.cells #[.int .i64 y.1, .slice s2 y.2.length k2] 29)).mono HP.out.2.2.size)).trans (hb1.mono (by have := HP.out.2.2.size; simp; omega)))
          clear hb1
          go_wp2
          go_roundg (xs.length - (k + 1))
          case measure => have := HP.out.2.1; omega
          case rel => exact ⟨k + 1, by omega, by go_num, HW.out.2.1 HD.out, hb2.out⟩
        · have HD := Lib.hid hd
          rw [decide_eq_false hd] at HW
          clear hd
          go_wp2_with fail
          refine (HW.out.1 _ (below_two _ _ _)).mono ?_
          rintro e w1 ⟨rfl, hb1⟩
          have hb2 := Lib.hid ((HP.out.2.2.trans ((below_two wr (.cells #[.int .i64 x.1, .slice s1 x.2.length k1] 29) (.cells #[.int .i64 y.1, .slice s2 y.2.length k2] 29)).mono HP.out.2.2.size)).trans (hb1.mono (by have := HP.out.2.2.size; simp; omega)))
          clear hb1
          go_wp2
          go_ret
          exact ⟨ret_bool (HW.out.2.2 HD.out).symm, hb2.out⟩
      · go_wp2
        go_ret
        exact ⟨ret_bool (take_allE HN.out (by omega) HP.out.1).symm, HP.out.2.2⟩
  · have hne : ((xs.length : Int) != (ys.length : Int)) = true := bne_t (by omega)
    go_enter Try.func39, Try.ntmps39
    go_wp2
    go_ret
    exact ⟨ret_bool (decide_eq_false (fun e => hnm (by rw [e]))).symm, Below.refl _ _⟩

theorem normE_len (t : List Ev) : (normE t).length = t.length := by rw [normE_eq]; exact norm_len rfl
theorem NormMade.reads {W w' : World} {t : List Ev} {B C : Nat} {v : Value} (h : OwnE B (EvR C) W w' v (normE t)) : ReadsE w' v (normE t) := h.reads fun _ _ => EvR.ev
set_option maxHeartbeats 2000000 in
theorem equiv_any (va vb : Value) (a b : List Ev) (W : World) (ha : ReadsE W va a) (hb : ReadsE W vb b) (hsa : SmallT a) (hsb : SmallT b) : Calls Try.prog 20 #[va, vb] W (BoolMade W (decide (normE a = normE b))) := by
  have HA := Lib.hid (normal_any va a W ha hsa)
  have HB := Lib.hid hb
  obtain ⟨xa, xn, xk, rfl⟩ := Slc.of_readsK ha
  obtain ⟨ya, yn, yk, rfl⟩ := Slc.of_readsK hb
  clear ha hb
  go_enter Try.func20, Try.ntmps20
  go_wp2_with fail
  refine HA.out.mono ?_
  rintro e w1 ⟨v1, rfl, h1⟩
  have HW1 := Lib.hid h1.1.2.2
  have HR1 := Lib.hid (NormMade.reads h1)
  obtain ⟨a1, k1, rfl⟩ := h1.slc
  clear h1 HA
  have HN := Lib.hid (normal_any _ b w1 (HB.out.on HW1.out) hsb)
  go_wp2_with fail
  refine HN.out.mono ?_
  rintro e w2 ⟨v2, rfl, h2⟩
  have HW2 := Lib.hid (HW1.out.trans (h2.1.2.2.mono HW1.out.size))
  have HR2 := Lib.hid (And.intro (HR1.out.on h2.1.2.2) (NormMade.reads h2))
  obtain ⟨a2, k2, rfl⟩ := h2.slc
  clear h2 HN
  have HEQ := Lib.hid (equalFunc_any _ _ _ _ w2 HR2.out.1 HR2.out.2)
  go_wp2_with fail
  refine HEQ.out.mono ?_
  rintro e w3 ⟨rfl, h3⟩
  have HW3 := Lib.hid (HW2.out.trans (h3.mono HW2.out.size))
  clear h3 HEQ
  generalize hd : decide (normE a = normE b) = d at *
  have HD := Lib.hid hd
  clear hd
  go_wp2
  go_ret
  exact ⟨ret_bool HD.out.symm, HW3.out⟩
end Go.Proofs.Ytfdicndmebhmdaa
