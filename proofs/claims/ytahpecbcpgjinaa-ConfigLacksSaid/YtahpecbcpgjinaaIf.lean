/-
  Chapter 39: the plain law of the enumeration, its rest: what is tolerated, what lacks; sizes.
-/
import Derived.Test.YtahpecbcpgjinaaIc
import Derived.Test.YtahpecbcpgjinaaMembers
namespace Go.Proofs.Ytahpecbcpgjinaa
open Go.RowKit

section
variable {M R : Int} {F : List Int} {B C : List Cmd}
theorem allE_len (h : okB M R F B C = true) (h7 : (confL R C).length ≤ (confL R B).length + 7) : (allE R B C).length ≤ 128 := by
  unfold allE
  rw [enumL_len]
  have h1 := @restL_len (confL R B) (confL R C) (confL_nodup R B) (fun x hx => confL_mem.2 ⟨(ok_parts h).2 x (confL_mem.1 hx).1 (confL_mem.1 hx).2, (confL_mem.1 hx).2⟩)
  exact Nat.le_trans (Nat.pow_le_pow_right (by decide) (show (restL (confL R B) (confL R C)).length ≤ 7 by omega)) (by decide)
theorem allE_dlen (hB : B.length ≤ 40) (hC : C.length ≤ 40) : ∀ D ∈ allE R B C, D.length ≤ 80 := fun D hD => by
  have h1 := enumL_dlen hD
  have h2 := confL_len R B
  have h3 := confL_len R C
  have h4 := restL_le (confL R B) (confL R C)
  omega
theorem members_bd (hu : usableB M R F = true) {D : List Cmd} : ∀ r ∈ membersL M R F D, 0 ≤ r ∧ r < R := by
  intro r hr
  rw [members_or hu] at hr
  unfold orFirst at hr
  split at hr
  · rw [List.mem_singleton.1 hr]; exact head_bd hu
  · exact (mem_membersR.1 hr).1
theorem members_valid (hu : usableB M R F = true) (D : List Cmd) : validQ M (membersL M R F D) = true := by
  have h1 := usable_parts hu
  have h2 := head_bd hu
  rw [members_or hu]
  unfold orFirst
  split
  · unfold validQ sizedB
    rw [Bool.and_eq_true, decide_eq_true_eq, decide_eq_true_eq]
    refine ⟨⟨h1.1, by simp, by simp⟩, by simp, fun r hr => ?_⟩
    rw [List.mem_singleton.1 hr]
    omega
  · rename_i hne
    refine valid_filter h1.1 (by omega) _ ?_
    unfold cnt
    exact List.length_pos_iff.2 hne
theorem mem_others (hR : R ≤ 12) {x : List Int} {r : Int} (h0 : 0 ≤ r) (h1 : r < R) : r ∈ others R x ↔ r ∉ x := by
  unfold others
  rw [upTo_all, List.mem_filter, mem_reps]
  simp
  omega
theorem faults_le (n : Nat) : faultsN M n ≤ n := by
  unfold faultsN
  split
  · split <;> omega
  · omega
theorem tol_one (hu : usableB M R F = true) (D : List Cmd) (x : List Int) :
    isQ M (membersL M R F D) (others R x) = decide (((membersL M R F D).filter fun r => decide (r ∈ x)).length ≤ faultsN M (membersL M R F D).length) := by
  have hv := members_valid hu D
  have hb := @members_bd M R F hu D
  have hR := (usable_parts hu).2.1.2
  generalize membersL M R F D = l at *
  unfold isQ
  rw [hv, Bool.true_and]
  have hs : sizedB M l.length = true := by unfold validQ at hv; rw [Bool.and_eq_true] at hv; exact hv.1
  have hi : insideL l (others R x) + (l.filter fun r => decide (r ∈ x)).length = l.length := by
    have h1 := filter_both (fun r => decide (r ∈ x)) l
    have h2 : insideL l (others R x) = (l.filter fun r => !decide (r ∈ x)).length := by
      unfold insideL
      congr 1
      refine List.filter_congr fun r hr => ?_
      have := @mem_others R hR x r (hb r hr).1 (hb r hr).2
      by_cases hx : r ∈ x <;> simp [hx, this]
    omega
  have hf := @faults_le M l.length
  unfold needN
  rw [if_pos hs]
  exact decide_eq_decide.2 (by omega)
def tolB (M R : Int) (F : List Int) (B C : List Cmd) (x : List Int) : Bool := okB M R F B C && decide (∀ D ∈ allE R B C, ((membersL M R F D).filter fun r => decide (r ∈ x)).length ≤ faultsN M (membersL M R F D).length)
theorem tol_eq (x : List Int) : tolB M R F B C x = quorateB M R F B C (others R x) := by
  unfold tolB
  by_cases h : okB M R F B C = true
  · rw [h, Bool.true_and, quorate_all h]
    refine decide_eq_decide.2 ⟨fun ha D hD => ?_, fun ha D hD => ?_⟩
    · rw [tol_one (ok_parts h).1]; exact decide_eq_true (ha D hD)
    · have := ha D hD; rw [tol_one (ok_parts h).1] at this; exact of_decide_eq_true this
  · rw [Bool.not_eq_true] at h
    unfold quorateB
    rw [h]; rfl
def quoE (M R : Int) (F : List Int) (B C : List Cmd) (x : List Int) : Bool := okB M R F B C && decide (∀ D ∈ allE R B C, isQ M (membersL M R F D) x = true)
theorem quo_eq (x : List Int) : quoE M R F B C x = quorateB M R F B C x := by
  unfold quoE
  by_cases h : okB M R F B C = true
  · rw [h, Bool.true_and, quorate_all h]
  · rw [Bool.not_eq_true] at h
    unfold quorateB
    rw [h]; rfl
def lackP (M R : Int) (F : List Int) (B C : List Cmd) (x : List Int) (r : Int) : Bool := decide (r ∈ mustL M R F B C) || (decide (r ∈ mayL M R F B C) && !decide (r ∈ x))
theorem lack_worst (h : okB M R F B C = true) (x : List Int) : (reps R).filter (lackP M R F B C x) = worstL R F B C x := by
  unfold worstL
  refine List.filter_congr fun r hr => ?_
  unfold lackP worstP mustL mayL
  rw [if_pos h, if_pos h]
  have h1 : decide (r ∈ (reps R).filter (mustP F B C)) = mustP F B C r := by rw [Bool.eq_iff_iff, decide_eq_true_eq, List.mem_filter]; exact ⟨fun h => h.2, fun h => ⟨hr, h⟩⟩
  have h2 : decide (r ∈ (reps R).filter (mayP F B C)) = mayP F B C r := by rw [Bool.eq_iff_iff, decide_eq_true_eq, List.mem_filter]; exact ⟨fun h => h.2, fun h => ⟨hr, h⟩⟩
  rw [h1, h2]
/-- What lacks is no quorum. -/
theorem lack_isq {x : List Int} (h : lackB M R F B C x = true) : isQ M (lackL M R F B C x) x = false := by
  unfold lackL
  rw [if_pos h]
  unfold lackB at h
  rw [Bool.and_eq_true] at h
  obtain ⟨hok, hq⟩ := h
  have hu := (ok_parts hok).1
  have hs := (ok_parts hok).2
  cases hi : isQ M (orFirst F (worstL R F B C x)) x with
  | false => rfl
  | true =>
    exfalso
    unfold quorateB at hq
    rw [hok, hi, Bool.true_and, Bool.and_true, Bool.not_or, Bool.and_eq_true] at hq
    simp only [Bool.not_not, Bool.not_eq_true', decide_eq_true_eq, decide_eq_false_iff_not] at hq
    obtain ⟨hm, hf⟩ := hq
    have hp : 0 < insideL (orFirst F (worstL R F B C x)) x := by
      unfold isQ at hi
      rw [Bool.and_eq_true, decide_eq_true_eq] at hi
      obtain ⟨hv, hn⟩ := hi
      have hz : sizedB M (orFirst F (worstL R F B C x)).length = true := by unfold validQ at hv; rw [Bool.and_eq_true] at hv; exact hv.1
      have h1 : 1 ≤ (orFirst F (worstL R F B C x)).length := (of_decide_eq_true hz).2.1
      unfold needN at hn
      rw [if_pos hz] at hn
      unfold faultsN at hn
      rw [if_pos hz] at hn
      split at hn <;> omega
    unfold insideL at hp
    rw [List.length_pos_iff_exists_mem] at hp
    obtain ⟨r, hr⟩ := hp
    rw [List.mem_filter, decide_eq_true_eq] at hr
    obtain ⟨hr, hx⟩ := hr
    unfold orFirst at hr
    split at hr
    · rw [List.mem_singleton.1 hr] at hx; exact hf hx
    · unfold worstL at hr
      rw [List.mem_filter] at hr
      obtain ⟨hr0, hr⟩ := hr
      have hmu : mustP F B C r = false := by
        cases e : mustP F B C r with
        | false => rfl
        | true =>
          have : r ∈ mustL M R F B C := by rw [mustL_ok hok, List.mem_filter]; exact ⟨hr0, e⟩
          rw [hm] at this; cases this
      unfold worstP at hr
      rw [hmu, decide_eq_true hx] at hr
      simp at hr
end
end Go.Proofs.Ytahpecbcpgjinaa
