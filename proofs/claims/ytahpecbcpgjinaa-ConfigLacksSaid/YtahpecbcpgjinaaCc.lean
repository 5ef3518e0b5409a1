/-
  Chapter 39: quorums: sizes, faults, need, valid groups, of the program and of the reference.
-/
import Derived.Test.YtahpecbcpgjinaaCb
import Derived.Deep.LoopGhost
namespace Go.Proofs.Ytahpecbcpgjinaa
open Go.RowKit

theorem size_any (M n : Int) (w : World) : Calls Try.prog 67 #[.int .i64 M, .int .i64 n] w fun e w' => e = .returned (.bool (sizedI M n)) ∧ w = w' := by
  generalize hv : sizedI M n = b
  unfold sizedI at hv
  by_cases h1 : M = 1
  · subst h1
    by_cases h2 : 1 ≤ n
    · by_cases h3 : n ≤ 12
      · have HV := Lib.hid (hv.symm.trans (decide_eq_true ⟨.inl rfl, h2, h3⟩))
        clear hv
        go_enter Try.func67, Try.ntmps67
        go_wp2
        go_ret
        exact ⟨ret_bool HV.out.symm, rfl⟩
      · have HV := Lib.hid (hv.symm.trans (decide_eq_false fun h => by omega))
        clear hv
        go_enter Try.func67, Try.ntmps67
        go_wp2
        go_ret
        exact ⟨ret_bool HV.out.symm, rfl⟩
    · have HV := Lib.hid (hv.symm.trans (decide_eq_false fun h => by omega))
      clear hv
      go_enter Try.func67, Try.ntmps67
      go_wp2
      go_ret
      exact ⟨ret_bool HV.out.symm, rfl⟩
  · have e1 := beq_f h1
    by_cases h4 : M = 2
    · subst h4
      clear h1 e1
      by_cases h2 : 1 ≤ n
      · by_cases h3 : n ≤ 12
        · have HV := Lib.hid (hv.symm.trans (decide_eq_true ⟨.inr rfl, h2, h3⟩))
          clear hv
          go_enter Try.func67, Try.ntmps67
          go_wp2
          go_ret
          exact ⟨ret_bool HV.out.symm, rfl⟩
        · have HV := Lib.hid (hv.symm.trans (decide_eq_false fun h => by omega))
          clear hv
          go_enter Try.func67, Try.ntmps67
          go_wp2
          go_ret
          exact ⟨ret_bool HV.out.symm, rfl⟩
      · have HV := Lib.hid (hv.symm.trans (decide_eq_false fun h => by omega))
        clear hv
        go_enter Try.func67, Try.ntmps67
        go_wp2
        go_ret
        exact ⟨ret_bool HV.out.symm, rfl⟩
    · have e2 := beq_f h4
      have HV := Lib.hid (hv.symm.trans (decide_eq_false fun h => by omega))
      clear hv h1 h4
      go_enter Try.func67, Try.ntmps67
      go_wp2
      go_ret
      exact ⟨ret_bool HV.out.symm, rfl⟩

theorem faults_any (M : Int) (n : Nat) (w : World) (hn : n ≤ maxLen) : Calls Try.prog 35 #[.int .i64 M, .int .i64 (n : Int)] w fun e w' => e = .returned (.int .i64 (faultsN M n : Nat)) ∧ w = w' := by
  have hs := sized_any M n w
  rw [sizedI_nat] at hs
  unfold maxLen at hn
  by_cases h : sizedB M n = true
  · rw [h] at hs
    have HS := Lib.hid hs
    obtain ⟨hM, h1, h2⟩ := of_decide_eq_true h
    rcases hM with rfl | rfl
    · have HV : Hid (((n : Int) - 1) / 2 = (faultsN 1 n : Nat)) := Lib.hid (by unfold faultsN; rw [if_pos h, if_neg (by omega)]; omega)
      clear h hs
      go_enter Try.func35, Try.ntmps35
      go_wp2_with fail
      refine HS.out.mono ?_
      rintro e w1 ⟨rfl, rfl⟩
      go_wp2
      go_ret
      exact ⟨ret_int HV.out, rfl⟩
    · have HV : Hid (((n : Int) - 1) / 3 = (faultsN 2 n : Nat)) := Lib.hid (by unfold faultsN; rw [if_pos h, if_pos rfl]; omega)
      clear h hs
      go_enter Try.func35, Try.ntmps35
      go_wp2_with fail
      refine HS.out.mono ?_
      rintro e w1 ⟨rfl, rfl⟩
      go_wp2
      go_ret
      exact ⟨ret_int HV.out, rfl⟩
  · have hf := Bool.eq_false_iff.2 h
    rw [hf] at hs
    have HS := Lib.hid hs
    have HV : Hid ((0 : Int) = (faultsN M n : Nat)) := Lib.hid (by unfold faultsN; rw [if_neg h]; rfl)
    clear h hs hf
    go_enter Try.func35, Try.ntmps35
    go_wp2_with fail
    refine HS.out.mono ?_
    rintro e w1 ⟨rfl, rfl⟩
    go_wp2
    go_ret
    exact ⟨ret_int HV.out, rfl⟩

theorem rfaults_any (M : Int) (n : Nat) (w : World) (hn : n ≤ maxLen) : Calls Try.prog 49 #[.int .i64 M, .int .i64 (n : Int)] w fun e w' => e = .returned (.int .i64 (faultsN M n : Nat)) ∧ w = w' := by
  have hs := size_any M n w
  rw [sizedI_nat] at hs
  unfold maxLen at hn
  by_cases h : sizedB M n = true
  · rw [h] at hs
    have HS := Lib.hid hs
    obtain ⟨hM, h1, h2⟩ := of_decide_eq_true h
    rcases hM with rfl | rfl
    · have HV : Hid (((n : Int) - 1) / 2 = (faultsN 1 n : Nat)) := Lib.hid (by unfold faultsN; rw [if_pos h, if_neg (by omega)]; omega)
      clear h hs
      go_enter Try.func49, Try.ntmps49
      go_wp2_with fail
      refine HS.out.mono ?_
      rintro e w1 ⟨rfl, rfl⟩
      go_wp2
      go_ret
      exact ⟨ret_int HV.out, rfl⟩
    · have HV : Hid (((n : Int) - 1) / 3 = (faultsN 2 n : Nat)) := Lib.hid (by unfold faultsN; rw [if_pos h, if_pos rfl]; omega)
      clear h hs
      go_enter Try.func49, Try.ntmps49
      go_wp2_with fail
      refine HS.out.mono ?_
      rintro e w1 ⟨rfl, rfl⟩
      go_wp2
      go_ret
      exact ⟨ret_int HV.out, rfl⟩
  · have hf := Bool.eq_false_iff.2 h
    rw [hf] at hs
    have HS := Lib.hid hs
    have HV : Hid ((0 : Int) = (faultsN M n : Nat)) := Lib.hid (by unfold faultsN; rw [if_neg h]; rfl)
    clear h hs hf
    go_enter Try.func49, Try.ntmps49
    go_wp2_with fail
    refine HS.out.mono ?_
    rintro e w1 ⟨rfl, rfl⟩
    go_wp2
    go_ret
    exact ⟨ret_int HV.out, rfl⟩

theorem need_any (M : Int) (n : Nat) (w : World) (hn : n ≤ maxLen) : Calls Try.prog 52 #[.int .i64 M, .int .i64 (n : Int)] w fun e w' => e = .returned (.int .i64 (needN M n : Nat)) ∧ w = w' := by
  have hs := sized_any M n w
  have hf := faults_any M n w hn
  rw [sizedI_nat] at hs
  unfold maxLen at hn
  by_cases h : sizedB M n = true
  · rw [h] at hs
    have hle : faultsN M n ≤ n := by unfold faultsN; rw [if_pos h]; split <;> omega
    have HV : Hid ((n : Int) - (faultsN M n : Nat) = (needN M n : Nat)) := Lib.hid (by unfold needN; rw [if_pos h]; omega)
    generalize faultsN M n = f at *
    have HS := Lib.hid (And.intro hs hf)
    clear h hs hf
    go_enter Try.func52, Try.ntmps52
    go_wp2_with fail
    refine HS.out.1.mono ?_
    rintro e w1 ⟨rfl, rfl⟩
    go_wp2_with fail
    refine HS.out.2.mono ?_
    rintro e w1 ⟨rfl, rfl⟩
    go_wp2
    go_ret
    exact ⟨ret_int HV.out, rfl⟩
  · have hff := Bool.eq_false_iff.2 h
    rw [hff] at hs
    have HS := Lib.hid hs
    have HV : Hid ((0 : Int) = (needN M n : Nat)) := Lib.hid (by unfold needN; rw [if_neg h]; rfl)
    clear h hs hff hf
    go_enter Try.func52, Try.ntmps52
    go_wp2_with fail
    refine HS.out.mono ?_
    rintro e w1 ⟨rfl, rfl⟩
    go_wp2
    go_ret
    exact ⟨ret_int HV.out, rfl⟩

theorem rneed_any (M : Int) (n : Nat) (w : World) (hn : n ≤ maxLen) : Calls Try.prog 66 #[.int .i64 M, .int .i64 (n : Int)] w fun e w' => e = .returned (.int .i64 (needN M n : Nat)) ∧ w = w' := by
  have hs := size_any M n w
  have hf := rfaults_any M n w hn
  rw [sizedI_nat] at hs
  unfold maxLen at hn
  by_cases h : sizedB M n = true
  · rw [h] at hs
    have hle : faultsN M n ≤ n := by unfold faultsN; rw [if_pos h]; split <;> omega
    have HV : Hid ((n : Int) - (faultsN M n : Nat) = (needN M n : Nat)) := Lib.hid (by unfold needN; rw [if_pos h]; omega)
    generalize faultsN M n = f at *
    have HS := Lib.hid (And.intro hs hf)
    clear h hs hf
    go_enter Try.func66, Try.ntmps66
    go_wp2_with fail
    refine HS.out.1.mono ?_
    rintro e w1 ⟨rfl, rfl⟩
    go_wp2_with fail
    refine HS.out.2.mono ?_
    rintro e w1 ⟨rfl, rfl⟩
    go_wp2
    go_ret
    exact ⟨ret_int HV.out, rfl⟩
  · have hff := Bool.eq_false_iff.2 h
    rw [hff] at hs
    have HS := Lib.hid hs
    have HV : Hid ((0 : Int) = (needN M n : Nat)) := Lib.hid (by unfold needN; rw [if_neg h]; rfl)
    clear h hs hff hf
    go_enter Try.func66, Try.ntmps66
    go_wp2_with fail
    refine HS.out.mono ?_
    rintro e w1 ⟨rfl, rfl⟩
    go_wp2
    go_ret
    exact ⟨ret_int HV.out, rfl⟩

/-! A list that increases within 0 .. U - 1, read up to k, its last element L (-1: none). -/
def goodL (U : Int) (xs : List Int) : Bool := decide (xs.Pairwise (· < ·) ∧ ∀ r ∈ xs, 0 ≤ r ∧ r < U)
def okTo (U : Int) (xs : List Int) (k : Nat) (L : Int) : Prop := (xs.take k).Pairwise (· < ·) ∧ (∀ r ∈ xs.take k, (0 ≤ r ∧ r < U) ∧ r ≤ L) ∧ -1 ≤ L ∧ (L = -1 ∨ L ∈ xs.take k)
theorem okTo_start (U : Int) (xs : List Int) : okTo U xs 0 (-1) := ⟨by simp, by simp, by omega, .inl rfl⟩
theorem okTo_step {U : Int} {xs : List Int} {k : Nat} {L : Int} (h : okTo U xs k L) (hk : k < xs.length) (h1 : L < xs[k]) (h2 : xs[k] < U) : okTo U xs (k + 1) xs[k] := by
  obtain ⟨a, b, c, d⟩ := h
  unfold okTo
  rw [List.take_succ_eq_append_getElem hk]
  refine ⟨?_, ?_, by omega, .inr (List.mem_append_right _ (List.mem_singleton_self _))⟩
  · rw [List.pairwise_append]
    refine ⟨a, by simp, fun x hx y hy => ?_⟩
    simp at hy; subst hy
    have := (b x hx).2; omega
  · intro r hr
    rcases List.mem_append.1 hr with h | h
    · have := b r h; exact ⟨this.1, by omega⟩
    · simp at h; subst h; exact ⟨⟨by omega, h2⟩, by omega⟩
theorem okTo_bad {U : Int} {xs : List Int} {k : Nat} {L : Int} (h : okTo U xs k L) (hk : k < xs.length) (hb : xs[k] ≤ L ∨ U ≤ xs[k]) : goodL U xs = false := by
  obtain ⟨a, b, c, d⟩ := h
  refine decide_eq_false fun hg => ?_
  have hx := hg.2 _ (List.getElem_mem hk)
  rcases hb with hb | hb
  · rcases d with d | d
    · omega
    · obtain ⟨j, hj, e⟩ := List.getElem_of_mem d
      rw [List.getElem_take] at e
      have hj' : j < k := by simp at hj; omega
      have := List.pairwise_iff_getElem.1 hg.1 j k (by omega) hk hj'
      omega
  · omega
theorem okTo_all {U : Int} {xs : List Int} {k : Nat} {L : Int} (h : okTo U xs k L) (hk : xs.length ≤ k) : goodL U xs = true := by
  obtain ⟨a, b, _, _⟩ := h
  rw [List.take_of_length_le hk] at a b
  exact decide_eq_true ⟨a, fun r hr => (b r hr).1⟩
theorem okTo_last {U : Int} {xs : List Int} {k : Nat} {L : Int} (h : okTo U xs k L) (h0 : 0 < k) (hk : k ≤ xs.length) : L = xs[k - 1] := by
  obtain ⟨a, b, c, d⟩ := h
  have hm : xs[k - 1] ∈ xs.take k := by
    rw [List.mem_take_iff_getElem]; exact ⟨k - 1, by omega, rfl⟩
  have h1 := b _ hm
  rcases d with d | d
  · omega
  · obtain ⟨j, hj, e⟩ := List.getElem_of_mem d
    rw [List.getElem_take] at e
    have hj' : j < k := by simp at hj; omega
    by_cases e2 : j = k - 1
    · subst e2; exact e.symm
    · have := List.pairwise_iff_getElem.1 a j (k - 1) (by simp; omega) (by simp; omega) (by omega)
      rw [List.getElem_take, List.getElem_take] at this
      omega
theorem valid_split (M : Int) (xs : List Int) : validQ M xs = (sizedB M xs.length && goodL 12 xs) := rfl

theorem valid_any (M : Int) (v : Value) (xs : List Int) (w : World) (hr : Reads vi w v xs) :
    Calls Try.prog 50 #[.int .i64 M, v] w fun e w' => e = .returned (.bool (validQ M xs)) ∧ w = w' := by
  obtain ⟨ao, cap, rfl, hl, hm, hn, hx⟩ := hr
  unfold maxLen at hm
  have hs := sized_any M xs.length w
  rw [sizedI_nat] at hs
  rw [valid_split]
  by_cases h : sizedB M xs.length = true
  · rw [h] at hs
    rw [h, Bool.true_and]
    have HS := Lib.hid hs
    clear hs h
    go_enter Try.func50, Try.ntmps50
    go_wp2_with fail
    refine HS.out.mono ?_
    rintro e w1 ⟨rfl, rfl⟩
    go_wp2
    go_loop [5, 15] (fun l i => ∃ (k : Nat) (L : Int), k ≤ xs.length ∧ i = .int .i64 k ∧ l = .int .i64 L ∧ okTo 12 xs k L) (fun _ i => xs.length - (intOf i).toNat)
    case atStart => exact ⟨0, -1, by omega, rfl, rfl, okTo_start _ _⟩
    case round =>
      obtain ⟨k, L, hk, rfl, rfl, hp⟩ := hrel
      have HP := Lib.hid hp
      clear hp
      by_cases hlt : k < xs.length
      · obtain ⟨b, off, rfl, hb, hc⟩ := hx (by intro e; subst e; simp at hlt)
        have h2 : w.cell? ⟨b, off + k, none⟩ = some (.int .i64 xs[k]) := hc k hlt
        have HA := Lib.hid (@okTo_step 12 xs k L HP.out hlt)
        have HB := Lib.hid (@okTo_bad 12 xs k L HP.out hlt)
        clear hc hx hn
        generalize xs[k] = x at *
        by_cases h1 : x ≤ L
        · go_wp2
          go_ret
          exact ⟨ret_bool (HB.out (.inl h1)).symm, rfl⟩
        · by_cases h3 : 12 ≤ x
          · go_wp2
            go_ret
            exact ⟨ret_bool (HB.out (.inr h3)).symm, rfl⟩
          · go_wp2
            go_round
            case rel => exact ⟨k + 1, x, by omega, by go_num, rfl, HA.out (by omega) (by omega)⟩
            case measure => simp [intOf]; omega
      · go_wp2
        go_ret
        exact ⟨ret_bool (okTo_all HP.out (by omega)).symm, rfl⟩
  · have hf := Bool.eq_false_iff.2 h
    rw [hf] at hs
    rw [hf, Bool.false_and]
    have HS := Lib.hid hs
    clear hs h hf
    go_enter Try.func50, Try.ntmps50
    go_wp2_with fail
    refine HS.out.mono ?_
    rintro e w1 ⟨rfl, rfl⟩
    go_wp2
    go_ret
    exact ⟨rfl, rfl⟩

theorem inside_snoc {xs ys : List Int} {k : Nat} (h : k < xs.length) : insideL (xs.take (k + 1)) ys = insideL (xs.take k) ys + if xs[k] ∈ ys then 1 else 0 := by
  unfold insideL
  rw [List.take_succ_eq_append_getElem h, List.filter_append, List.length_append]
  by_cases hm : xs[k] ∈ ys <;> simp [hm]

theorem inside_any (v u : Value) (xs ys : List Int) (w : World) (hr : Reads vi w v xs) (hq : Reads vi w u ys) :
    Calls Try.prog 51 #[v, u] w fun e w' => e = .returned (.int .i64 (insideL xs ys : Nat)) ∧ w = w' := by
  obtain ⟨ao, cap, rfl, hl, hm, hn, hx⟩ := hr
  obtain ⟨ao', cap', rfl, hl', hm', hn', hx'⟩ := hq
  unfold maxLen at hm hm'
  go_enter Try.func51, Try.ntmps51
  go_wp2
  go_loopg [5, 12] xs.length (fun g n i wr => ∃ k : Nat, g + k = xs.length ∧ i = .int .i64 k ∧ n = .int .i64 (insideL (xs.take k) ys : Nat) ∧ insideL (xs.take k) ys ≤ k ∧ w = wr)
  case atStart => exact ⟨0, by omega, rfl, rfl, by simp [insideL], rfl⟩
  case round =>
    obtain ⟨k, hg, rfl, rfl, hin, rfl⟩ := hrel
    have HG := Lib.hid hg
    have hk : k ≤ xs.length := by omega
    clear hg
    by_cases hlt : k < xs.length
    · obtain ⟨b, off, rfl, hb, hc⟩ := hx (by intro e; subst e; simp at hlt)
      have h2 : w.cell? ⟨b, off + k, none⟩ = some (.int .i64 xs[k]) := hc k hlt
      have hsn := inside_snoc (ys := ys) hlt
      clear hc hx hn
      generalize xs[k] = x at *
      generalize insideL (xs.take k) ys = n1 at *
      have HS := Lib.hid hsn
      clear hsn
      obtain ⟨G, hG⟩ : ∃ G, G = gk := ⟨_, rfl⟩
      subst hG
      go_wp2
      go_loopg [5, 18] ys.length (fun g n i wr => ∃ j : Nat, g + j = ys.length ∧ n = .int .i64 (n1 : Nat) ∧ i = .int .i64 j ∧ ¬ x ∈ ys.take j ∧ w = wr)
      case atStart => exact ⟨0, by omega, rfl, rfl, by simp, rfl⟩
      case round =>
        obtain ⟨j, hgj, rfl, rfl, hp, rfl⟩ := hrel
        have HP := Lib.hid (And.intro hp hgj)
        have hj : j ≤ ys.length := by omega
        clear hp hgj
        by_cases hjl : j < ys.length
        · obtain ⟨b', off', rfl, hb', hc'⟩ := hx' (by intro e; subst e; simp at hjl)
          have h3 : w.cell? ⟨b', off' + j, none⟩ = some (.int .i64 ys[j]) := hc' j hjl
          clear hc' hx' hn'
          by_cases hd : ys[j] = x
          · have HM := Lib.hid (of_decide_eq_true (mem_at hjl hd))
            have hB := beq_t hd.symm
            clear hd
            go_wp2
            go_roundg (xs.length - (k + 1))
            case measure => have := HG.out; omega
            case rel =>
              have hs := HS.out
              rw [if_pos HM.out] at hs
              exact ⟨k + 1, by omega, by go_num, by rw [hs]; go_num, by omega, rfl⟩
          · have HM := Lib.hid (not_mem_snoc hjl HP.out.1 hd)
            have hB := beq_f (fun e => hd (Eq.symm e))
            clear hd
            go_wp2
            go_roundg (ys.length - (j + 1))
            case measure => have := HP.out.2; omega
            case rel => exact ⟨j + 1, by omega, rfl, by go_num, HM.out, rfl⟩
        · have HM := Lib.hid (of_decide_eq_false (not_mem_all (show ys.length ≤ j by omega) HP.out.1))
          go_wp2
          go_roundg (xs.length - (k + 1))
          case measure => have := HG.out; omega
          case rel =>
            have hs := HS.out
            rw [if_neg HM.out] at hs
            exact ⟨k + 1, by omega, by go_num, by rw [hs]; rfl, by omega, rfl⟩
    · have hkn : k = xs.length := by omega
      subst hkn
      have HV : Hid (insideL (xs.take xs.length) ys = insideL xs ys) := Lib.hid (by rw [List.take_length])
      go_wp2
      go_ret
      exact ⟨ret_int (by rw [HV.out]), rfl⟩

theorem isq_any (M : Int) (v u : Value) (xs ys : List Int) (w : World) (hr : Reads vi w v xs) (hq : Reads vi w u ys) :
    Calls Try.prog 30 #[.int .i64 M, v, u] w fun e w' => e = .returned (.bool (isQ M xs ys)) ∧ w = w' := by
  have hv := valid_any M v xs w hr
  have hi := inside_any v u xs ys w hr hq
  have hnd := need_any M xs.length w hr.len
  unfold isQ
  obtain ⟨ao, cap, rfl, hl, hm, hn, hx⟩ := hr
  unfold maxLen at hm
  clear hn hx
  generalize insideL xs ys = a at *
  generalize needN M xs.length = b at *
  by_cases h : validQ M xs = true
  · rw [h] at hv
    rw [h, Bool.true_and]
    have HS := Lib.hid (And.intro hv (And.intro hi hnd))
    clear hv hi hnd h
    go_enter Try.func30, Try.ntmps30
    go_wp2_with fail
    refine HS.out.1.mono ?_
    rintro e w1 ⟨rfl, rfl⟩
    go_wp2_with fail
    refine HS.out.2.1.mono ?_
    rintro e w1 ⟨rfl, rfl⟩
    go_wp2_with fail
    refine HS.out.2.2.mono ?_
    rintro e w1 ⟨rfl, rfl⟩
    go_wp2
    go_ret
    exact ⟨rfl, rfl⟩
  · have hf := Bool.eq_false_iff.2 h
    rw [hf] at hv
    rw [hf, Bool.false_and]
    have HS := Lib.hid hv
    clear hv hi hnd h hf
    go_enter Try.func30, Try.ntmps30
    go_wp2_with fail
    refine HS.out.mono ?_
    rintro e w1 ⟨rfl, rfl⟩
    go_wp2
    go_ret
    exact ⟨rfl, rfl⟩
end Go.Proofs.Ytahpecbcpgjinaa
