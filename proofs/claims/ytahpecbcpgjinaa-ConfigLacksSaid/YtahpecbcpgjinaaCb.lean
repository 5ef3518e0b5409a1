/-
  Chapter 39: functions over lists of integers: has, Same, Contains, and the quorums.
-/
import Derived.Test.YtahpecbcpgjinaaCa
namespace Go.Proofs.Ytahpecbcpgjinaa
open Go.RowKit

def vi (n : Int) : Value := .int .i64 n
theorem beq_t {a b : Int} (h : a = b) : (a == b) = true := beq_iff_eq.2 h
theorem beq_f {a b : Int} (h : ¬ a = b) : (a == b) = false := beq_eq_false_iff_ne.2 h
theorem bne_t {a b : Int} (h : ¬ a = b) : (a != b) = true := bne_iff_ne.2 h
theorem bne_f {a b : Int} (h : a = b) : (a != b) = false := by rw [bne, beq_t h]; rfl

theorem not_mem_snoc {xs : List Int} {k : Nat} {r : Int} (h : k < xs.length) (hp : ¬ r ∈ xs.take k) (hd : ¬ xs[k] = r) : ¬ r ∈ xs.take (k + 1) := by
  rw [List.take_succ_eq_append_getElem h]
  simp only [List.mem_append, List.mem_singleton]
  exact fun h => h.elim hp (fun e => hd e.symm)
theorem not_mem_all {xs : List Int} {k : Nat} {r : Int} (h : xs.length ≤ k) (hp : ¬ r ∈ xs.take k) : decide (r ∈ xs) = false := by
  rw [List.take_of_length_le h] at hp; exact decide_eq_false hp
theorem mem_at {xs : List Int} {k : Nat} {r : Int} (h : k < xs.length) (hd : xs[k] = r) : decide (r ∈ xs) = true := decide_eq_true (by rw [← hd]; exact List.getElem_mem _)

theorem has31_any (v : Value) (xs : List Int) (r : Int) (w : World) (hr : Reads vi w v xs) :
    Calls Try.prog 54 #[v, .int .i64 r] w fun e w' => e = .returned (.bool (decide (r ∈ xs))) ∧ w = w' := by
  obtain ⟨ao, cap, rfl, hl, hm, hn, hx⟩ := hr
  unfold maxLen at hm
  go_enter Try.func54, Try.ntmps54
  go_wp2
  go_loop [5] (fun i => ∃ k : Nat, k ≤ xs.length ∧ i = .int .i64 k ∧ ¬ r ∈ xs.take k) (fun i => xs.length - (intOf i).toNat)
  case atStart => exact ⟨0, by omega, rfl, by simp⟩
  case round =>
    obtain ⟨k, hk, rfl, hp⟩ := hrel
    have HP := Lib.hid hp
    clear hp
    by_cases hlt : k < xs.length
    · obtain ⟨b, off, rfl, hb, hc⟩ := hx (by intro e; subst e; simp at hlt)
      have h2 : w.cell? ⟨b, off + k, none⟩ = some (.int .i64 xs[k]) := hc k hlt
      clear hc hx hn
      by_cases hd : xs[k] = r
      · have HD := Lib.hid (mem_at hlt hd)
        have hB := beq_t hd
        clear hd
        go_wp2
        go_ret
        exact ⟨ret_bool HD.out.symm, rfl⟩
      · have HD := Lib.hid (not_mem_snoc hlt HP.out hd)
        have hB := beq_f hd
        clear hd
        go_wp2
        go_round
        case rel => exact ⟨k + 1, by omega, by go_num, HD.out⟩
        case measure => simp [intOf]; omega
    · go_wp2
      go_ret
      exact ⟨ret_bool (not_mem_all (by omega) HP.out).symm, rfl⟩

theorem has39_any (v : Value) (xs : List Int) (r : Int) (w : World) (hr : Reads vi w v xs) :
    Calls Try.prog 44 #[v, .int .i64 r] w fun e w' => e = .returned (.bool (decide (r ∈ xs))) ∧ w = w' := by
  obtain ⟨ao, cap, rfl, hl, hm, hn, hx⟩ := hr
  unfold maxLen at hm
  go_enter Try.func44, Try.ntmps44
  go_wp2
  go_loop [5] (fun i => ∃ k : Nat, k ≤ xs.length ∧ i = .int .i64 k ∧ ¬ r ∈ xs.take k) (fun i => xs.length - (intOf i).toNat)
  case atStart => exact ⟨0, by omega, rfl, by simp⟩
  case round =>
    obtain ⟨k, hk, rfl, hp⟩ := hrel
    have HP := Lib.hid hp
    clear hp
    by_cases hlt : k < xs.length
    · obtain ⟨b, off, rfl, hb, hc⟩ := hx (by intro e; subst e; simp at hlt)
      have h2 : w.cell? ⟨b, off + k, none⟩ = some (.int .i64 xs[k]) := hc k hlt
      clear hc hx hn
      by_cases hd : xs[k] = r
      · have HD := Lib.hid (mem_at hlt hd)
        have hB := beq_t hd
        clear hd
        go_wp2
        go_ret
        exact ⟨ret_bool HD.out.symm, rfl⟩
      · have HD := Lib.hid (not_mem_snoc hlt HP.out hd)
        have hB := beq_f hd
        clear hd
        go_wp2
        go_round
        case rel => exact ⟨k + 1, by omega, by go_num, HD.out⟩
        case measure => simp [intOf]; omega
    · go_wp2
      go_ret
      exact ⟨ret_bool (not_mem_all (by omega) HP.out).symm, rfl⟩

/-- The place of r, or none. -/
def Found (xs : List Int) (r : Int) (i : Int) : Prop := decide (0 ≤ i) = decide (r ∈ xs)

theorem index_any (v : Value) (xs : List Int) (r : Int) (w : World) (hr : Reads vi w v xs) :
    Calls Try.prog 57 #[v, .int .i64 r] w fun e w' => ∃ i, e = .returned (.int .i64 i) ∧ Found xs r i ∧ w = w' := by
  obtain ⟨ao, cap, rfl, hl, hm, hn, hx⟩ := hr
  unfold maxLen at hm
  go_enter Try.func57, Try.ntmps57
  go_wp2
  go_loop [8] (fun i => ∃ k : Nat, k ≤ xs.length ∧ i = .int .i64 k ∧ ¬ r ∈ xs.take k) (fun i => xs.length - (intOf i).toNat)
  case atStart => exact ⟨0, by omega, rfl, by simp⟩
  case round =>
    obtain ⟨k, hk, rfl, hp⟩ := hrel
    have HP := Lib.hid hp
    clear hp
    by_cases hlt : k < xs.length
    · obtain ⟨b, off, rfl, hb, hc⟩ := hx (by intro e; subst e; simp at hlt)
      have h2 : w.cell? ⟨b, off + k, none⟩ = some (.int .i64 xs[k]) := hc k hlt
      clear hc hx hn
      by_cases hd : xs[k] = r
      · have HD := Lib.hid (mem_at hlt hd)
        have hB := beq_t hd.symm
        clear hd
        go_wp2
        go_ret
        exact ⟨_, rfl, by unfold Found; rw [HD.out]; exact decide_eq_true (by omega), rfl⟩
      · have HD := Lib.hid (not_mem_snoc hlt HP.out hd)
        have hB := beq_f (fun e => hd (Eq.symm e))
        clear hd
        go_wp2
        go_round
        case rel => exact ⟨k + 1, by omega, by go_num, HD.out⟩
        case measure => simp [intOf]; omega
    · go_wp2
      go_ret
      exact ⟨_, rfl, by unfold Found; rw [not_mem_all (by omega) HP.out]; rfl, rfl⟩

theorem contains_any (v : Value) (xs : List Int) (r : Int) (w : World) (hr : Reads vi w v xs) :
    Calls Try.prog 39 #[v, .int .i64 r] w fun e w' => e = .returned (.bool (decide (r ∈ xs))) ∧ w = w' := by
  go_enter Try.func39, Try.ntmps39
  go_wp2_with fail
  refine (index_any v xs r _ hr).mono ?_
  rintro e w1 ⟨i, rfl, hf, rfl⟩
  have HF := Lib.hid hf
  clear hf hr
  by_cases h : 0 ≤ i
  · have HD := Lib.hid (HF.out.symm.trans (decide_eq_true h))
    go_wp2
    go_ret
    exact ⟨ret_bool HD.out.symm, rfl⟩
  · have h2 : i < 0 := by omega
    go_wp2
    go_ret
    exact ⟨ret_bool HF.out, rfl⟩

theorem same31_any (v u : Value) (xs ys : List Int) (w : World) (hr : Reads vi w v xs) (hs : Reads vi w u ys) :
    Calls Try.prog 15 #[v, u] w fun e w' => e = .returned (.bool (decide (xs = ys))) ∧ Drew w w' := by
  obtain ⟨ao, cap, rfl, hl, hm, hn, hx⟩ := hr
  obtain ⟨ao', cap', rfl, hl', hm', hn', hx'⟩ := hs
  unfold maxLen at hm hm'
  by_cases hnm : xs.length = ys.length
  · have HN := Lib.hid hnm
    rw [← hnm]
    rw [← hnm] at hl'
    clear hnm
    go_enter Try.func15, Try.ntmps15
    go_wp2
    go_loopw [5] (fun i wr => ∃ k : Nat, k ≤ xs.length ∧ i = .int .i64 k ∧ xs.take k = ys.take k ∧ Drew w wr) (fun i _ => xs.length - (intOf i).toNat)
    case atStart => exact ⟨0, by omega, rfl, by simp, Drew.refl _⟩
    case round =>
      obtain ⟨k, hk, rfl, hp, hw⟩ := hrel
      have HP := Lib.hid hp
      clear hp
      by_cases hlt : k < xs.length
      · have hlt' : k < ys.length := by rw [← HN.out]; exact hlt
        obtain ⟨b, off, rfl, hb, hc⟩ := hx (by intro e; subst e; simp at hlt)
        obtain ⟨b', off', rfl, hb', hc'⟩ := hx' (by intro e; subst e; simp at hlt')
        have h1 : wr.cell? ⟨b, off + k, none⟩ = some (.int .i64 xs[k]) := (hw.cell _).trans (hc k hlt)
        have h2 : wr.cell? ⟨b', off' + k, none⟩ = some (.int .i64 ys[k]) := (hw.cell _).trans (hc' k hlt')
        clear hc hx hn hc' hx' hn'
        by_cases hd : xs[k] = ys[k]
        · have hB := bne_f hd
          have hB2 := beq_t hd
          have HD := Lib.hid hd
          clear hd
          go_wp2
          go_quiet (fail)
          go_wp2
          go_roundw
          case rel => exact ⟨k + 1, by omega, by go_num, by rw [List.take_succ_eq_append_getElem hlt, List.take_succ_eq_append_getElem hlt', HP.out, HD.out], hw.step _⟩
          case measure => simp [intOf]; omega
        · have hB := bne_t hd
          have hB2 := beq_f hd
          have HD := Lib.hid hd
          clear hd
          go_wp2
          go_quiet (fail)
          go_wp2
          go_ret
          exact ⟨ret_bool (decide_eq_false (fun e => HD.out (by subst e; rfl))).symm, hw.step _⟩
      · go_wp2
        go_ret
        refine ⟨ret_bool (decide_eq_true ?_).symm, hw⟩
        have := HP.out
        rwa [List.take_of_length_le (by omega), List.take_of_length_le (by rw [← HN.out]; omega)] at this
  · have hne : ((xs.length : Int) != (ys.length : Int)) = true := by rw [bne_iff_ne]; omega
    go_enter Try.func15, Try.ntmps15
    go_wp2
    go_ret
    exact ⟨ret_bool (decide_eq_false (fun e => hnm (by rw [e]))).symm, Drew.refl _⟩

def sizedI (M n : Int) : Bool := decide ((M = 1 ∨ M = 2) ∧ 1 ≤ n ∧ n ≤ 12)
theorem sizedI_nat (M : Int) (n : Nat) : sizedI M n = sizedB M n := by
  unfold sizedI sizedB
  rw [Bool.eq_iff_iff, decide_eq_true_eq, decide_eq_true_eq]; omega

theorem sized_any (M n : Int) (w : World) : Calls Try.prog 55 #[.int .i64 M, .int .i64 n] w fun e w' => e = .returned (.bool (sizedI M n)) ∧ w = w' := by
  generalize hv : sizedI M n = b
  unfold sizedI at hv
  by_cases h1 : M = 1
  · subst h1
    by_cases h2 : 1 ≤ n
    · by_cases h3 : n ≤ 12
      · have HV := Lib.hid (hv.symm.trans (decide_eq_true ⟨.inl rfl, h2, h3⟩))
        clear hv
        go_enter Try.func55, Try.ntmps55
        go_wp2
        go_ret
        exact ⟨ret_bool HV.out.symm, rfl⟩
      · have HV := Lib.hid (hv.symm.trans (decide_eq_false fun h => by omega))
        clear hv
        go_enter Try.func55, Try.ntmps55
        go_wp2
        go_ret
        exact ⟨ret_bool HV.out.symm, rfl⟩
    · have HV := Lib.hid (hv.symm.trans (decide_eq_false fun h => by omega))
      clear hv
      go_enter Try.func55, Try.ntmps55
      go_wp2
      go_ret
      exact ⟨ret_bool HV.out.symm, rfl⟩
  · have e1 := beq_f h1
    by_cases h4 : M = 2
    · subst h4
      clear h1 e1
      by_cases h2 : 1 ≤ n
      · by_cases h3 : n ≤ 12
        · have HV := Lib.hid (hv.symm.trans (decide_eq_true ⟨.inr rfl, h2, h3⟩))
          clear hv
          go_enter Try.func55, Try.ntmps55
          go_wp2
          go_ret
          exact ⟨ret_bool HV.out.symm, rfl⟩
        · have HV := Lib.hid (hv.symm.trans (decide_eq_false fun h => by omega))
          clear hv
          go_enter Try.func55, Try.ntmps55
          go_wp2
          go_ret
          exact ⟨ret_bool HV.out.symm, rfl⟩
      · have HV := Lib.hid (hv.symm.trans (decide_eq_false fun h => by omega))
        clear hv
        go_enter Try.func55, Try.ntmps55
        go_wp2
        go_ret
        exact ⟨ret_bool HV.out.symm, rfl⟩
    · have e2 := beq_f h4
      have HV := Lib.hid (hv.symm.trans (decide_eq_false fun h => by omega))
      clear hv h1 h4
      go_enter Try.func55, Try.ntmps55
      go_wp2
      go_ret
      exact ⟨ret_bool HV.out.symm, rfl⟩
end Go.Proofs.Ytahpecbcpgjinaa
