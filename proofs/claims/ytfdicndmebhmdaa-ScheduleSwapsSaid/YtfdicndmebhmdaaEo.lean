/-
  Chapter 29: IndexFunc at the closure of Prefix; what the first event on which one depends says of prefixes.
-/
import Derived.Test.YtfdicndmebhmdaaEn
namespace Go.Proofs.Ytfdicndmebhmdaa
open Go.RowKit

set_option maxRecDepth 100000 in
set_option maxHeartbeats 1000000 in
theorem prefclo_any (v : Value) (x : Ev) (gb : Nat) (e : Ev) (w : World) (hx : EvAt w v x) (hi : EvIn w gb e) : Calls Try.prog 48 #[v, .pointer (some ⟨gb, 0, none⟩)] w (BoolMade w (depE x e)) := by
  obtain ⟨ux, rfl, r1⟩ := hx
  obtain ⟨ue, hbk, r2⟩ := hi
  obtain ⟨s1, n1, k1, rfl⟩ := Slc.of_reads r1
  obtain ⟨s2, n2, k2, rfl⟩ := Slc.of_reads r2
  unfold evV
  have HD := Lib.hid (fun (o : Obj) => dep_any _ _ x e (w.alloc o) ⟨_, rfl, r1.keep ((Below.refl _ _).alloc (Nat.le_refl _) o)⟩ ⟨_, rfl, r2.keep ((Below.refl _ _).alloc (Nat.le_refl _) o)⟩)
  unfold evV at HD
  have d0 := hbk.cell 0
  have d1 := hbk.cell 1
  have dl := hbk.lt
  clear r1 r2 hbk
  go_enter Try.func48, Try.ntmps48
  go_wp2_with fail
  refine (HD.out _).mono ?_
  rintro r w1 ⟨rfl, hb⟩
  have HB := Lib.hid (((Below.refl w.heap.size w).alloc (Nat.le_refl _) _).trans (hb.mono (by simp)))
  clear HD hb
  generalize depE x e = d at *
  go_wp2
  go_ret
  exact ⟨rfl, HB.out⟩
/-- The first event that depends on e. -/
def FirstD (xs : List Ev) (e : Ev) (i : Int) : Prop := (i = -1 ∧ ∀ x, x ∈ xs → depE x e = false) ∨ ∃ k : Nat, ∃ h : k < xs.length, i = k ∧ (∀ x, x ∈ xs.take k → depE x e = false) ∧ depE xs[k] e = true
theorem none_snoc {xs : List Ev} {e : Ev} {k : Nat} (h : k < xs.length) (hp : ∀ x, x ∈ xs.take k → depE x e = false) (hd : depE xs[k] e = false) : ∀ x, x ∈ xs.take (k + 1) → depE x e = false := by
  rw [List.take_succ_eq_append_getElem h]
  intro x hx
  rcases List.mem_append.1 hx with h1 | h1
  · exact hp x h1
  · rw [List.mem_singleton.1 h1]; exact hd
set_option maxRecDepth 100000 in
set_option maxHeartbeats 1000000 in
theorem indexFuncE_any (v : Value) (xs : List Ev) (gb : Nat) (e : Ev) (w : World) (hr : ReadsE w v xs) (hi : EvIn w gb e) :
    Calls Try.prog 47 #[v, .func (.func 48) #[] #[.pointer (some ⟨gb, 0, none⟩)]] w fun r w' => ∃ i, r = .returned (.int .i64 i) ∧ FirstD xs e i ∧ Below w.heap.size w w' := by
  have HR := Lib.hid (And.intro hr hi)
  obtain ⟨ao, cap, rfl, hl, hm, hn, hx⟩ := hr
  unfold maxLen at hm
  clear hn hx hi
  go_enter Try.func47, Try.ntmps47
  go_wp2
  go_loopg [8] xs.length (fun m i wr => ∃ k : Nat, m + k = xs.length ∧ i = .int .i64 k ∧ (∀ x, x ∈ xs.take k → depE x e = false) ∧ Below w.heap.size w wr)
  case atStart => exact ⟨0, by omega, rfl, by simp, Below.refl _ _⟩
  case round =>
    obtain ⟨k, hmk, rfl, hp, hb⟩ := hrel
    have HP := Lib.hid (And.intro hp (And.intro hmk hb))
    have hk : k ≤ xs.length := by omega
    clear hp hmk hb
    by_cases hlt : k < xs.length
    · have hki : (k : Int) < xs.length := by omega
      have hk0 : (0 : Int) ≤ (k : Int) := by omega
      have HL := Lib.hid (And.intro hlt trivial)
      obtain ⟨b, off, c1, s1, k1, hv, hcell, xr⟩ := (HR.out.1.on HP.out.2.2).at2 hlt
      injection hv with e1 e2 e3
      subst e1
      have x0 := (hcell wr (Below.refl _ _)).1
      have x1 := (hcell wr (Below.refl _ _)).2
      have hcl := prefclo_any _ xs[k] gb e wr ⟨_, rfl, xr⟩ (HR.out.2.on HP.out.2.2)
      unfold evV at hcl
      have HN := Lib.hid (@none_snoc xs e k hlt HP.out.1)
      have HF : Hid (depE xs[k] e = true → FirstD xs e k) := Lib.hid fun hd => .inr ⟨k, hlt, rfl, HP.out.1, hd⟩
      clear hcell xr e2 e3
      generalize xs[k] = x at *
      clear hlt
      by_cases hd : depE x e = true
      · have HD := Lib.hid (HF.out hd)
        rw [hd] at hcl
        have HC := Lib.hid hcl
        clear hcl hd HF
        go_wp2_with fail
        refine HC.out.mono ?_
        rintro r w1 ⟨rfl, hb1⟩
        have H1 := Lib.hid (HP.out.2.2.trans (hb1.mono HP.out.2.2.size))
        clear hb1
        go_wp2
        go_ret
        exact ⟨_, rfl, HD.out, H1.out⟩
      · rw [Bool.not_eq_true] at hd
        have HD := Lib.hid (HN.out hd)
        rw [hd] at hcl
        have HC := Lib.hid hcl
        clear hcl hd HF
        go_wp2_with fail
        refine HC.out.mono ?_
        rintro r w1 ⟨rfl, hb1⟩
        have H1 := Lib.hid (HP.out.2.2.trans (hb1.mono HP.out.2.2.size))
        clear hb1
        go_wp2
        go_roundg (xs.length - (k + 1))
        case measure => have := HP.out.2.1; omega
        case rel => exact ⟨k + 1, by have := HP.out.2.1; have := HL.out.1; omega, by go_num, HD.out, H1.out⟩
    · go_wp2
      go_ret
      refine ⟨_, rfl, .inl ⟨rfl, ?_⟩, HP.out.2.2⟩
      have := HP.out.1
      rwa [List.take_of_length_le (by omega)] at this
theorem frB_skip {e : Ev} : ∀ {u : List Ev} (v : List Ev), (∀ x, x ∈ u → depE x e = false) → frB (u ++ v) e = frB v e
  | [], _, _ => rfl
  | x :: u, v, h => by
    have hx := h x (List.mem_cons_self ..)
    have hne : ¬ x = e := fun q => by rw [q, depE_self] at hx; cases hx
    show (decide (x = e) || (!depE x e && frB (u ++ v) e)) = _
    rw [decide_eq_false hne, hx, frB_skip v fun y hy => h y (List.mem_cons_of_mem _ hy)]
    rfl
theorem first_none {xs : List Ev} {e : Ev} (h : ∀ x, x ∈ xs → depE x e = false) : frB xs e = false := by
  have := frB_skip (u := xs) [] h
  rw [List.append_nil] at this
  rw [this]; rfl
theorem first_some {xs : List Ev} {e : Ev} {k : Nat} (hk : k < xs.length) (h : ∀ x, x ∈ xs.take k → depE x e = false) (hd : depE xs[k] e = true) : frB xs e = decide (xs[k] = e) := by
  have hx : xs = xs.take k ++ xs[k] :: xs.drop (k + 1) := by rw [← List.drop_eq_getElem_cons hk, List.take_append_drop]
  have h1 := frB_skip (u := xs.take k) (xs[k] :: xs.drop (k + 1)) h
  rw [← hx] at h1
  rw [h1]
  show (decide (xs[k] = e) || (!depE xs[k] e && _)) = _
  rw [hd]; simp
theorem first_erase {xs : List Ev} {e : Ev} {k : Nat} (hk : k < xs.length) (h : ∀ x, x ∈ xs.take k → depE x e = false) (he : xs[k] = e) : xs.erase e = xs.eraseIdx k := by
  have hx : xs = xs.take k ++ xs[k] :: xs.drop (k + 1) := by rw [← List.drop_eq_getElem_cons hk, List.take_append_drop]
  have hn : e ∉ xs.take k := fun hm => by have := h e hm; rw [depE_self] at this; cases this
  rw [List.eraseIdx_eq_take_drop_succ]
  conv => lhs; rw [hx, he]
  rw [List.erase_append_right _ hn, List.erase_cons_head]
end Go.Proofs.Ytfdicndmebhmdaa
