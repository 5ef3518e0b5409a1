/-
  Chapter 39: what the laws share: the genesis in its block, lists between lists.
-/
import Derived.Test.YtahpecbcpgjinaaCw
import Derived.Test.YtahpecbcpgjinaaCx
import Derived.Test.YtahpecbcpgjinaaCu
import Derived.Test.YtahpecbcpgjinaaCv
namespace Go.Proofs.Ytahpecbcpgjinaa
open Go.RowKit

theorem blk6 {w : World} {g : Nat} {t : TypeId} {v0 v1 v2 v3 v4 v5 : Value} (h : Blk w g t #[v0, v1, v2, v3, v4, v5]) :
    w.cell? ⟨g, 0, none⟩ = some v0 ∧ w.cell? ⟨g, 1, none⟩ = some v1 ∧ w.cell? ⟨g, 2, none⟩ = some v2 ∧ w.cell? ⟨g, 3, none⟩ = some v3 ∧ w.cell? ⟨g, 4, none⟩ = some v4 ∧ w.cell? ⟨g, 5, none⟩ = some v5 ∧ g < w.heap.size :=
  ⟨h.cell 0, h.cell 1, h.cell 2, h.cell 3, h.cell 4, h.cell 5, h.lt⟩

theorem between_of {R : Int} {B D C : List Cmd} (h1 : ∀ c ∈ B, confB R c = true → c ∈ D) (h2 : ∀ c ∈ D, confB R c = true → c ∈ C) : between R B D C := by
  intro r h0 hR
  unfold addedB removedB
  simp only [decide_eq_true_eq]
  refine ⟨fun ⟨c, hc, a, b⟩ => ?_, fun ⟨c, hc, a, b⟩ => ?_, fun ⟨c, hc, a, b⟩ => ?_, fun ⟨c, hc, a, b⟩ => ?_⟩
  · exact ⟨c, h1 c hc (decide_eq_true ⟨.inl a, by omega, by omega⟩), a, b⟩
  · exact ⟨c, h2 c hc (decide_eq_true ⟨.inl a, by omega, by omega⟩), a, b⟩
  · exact ⟨c, h1 c hc (decide_eq_true ⟨.inr a, by omega, by omega⟩), a, b⟩
  · exact ⟨c, h2 c hc (decide_eq_true ⟨.inr a, by omega, by omega⟩), a, b⟩

theorem quorate_ok {M R : Int} {F : List Int} {B C : List Cmd} {x : List Int} (h : quorateB M R F B C x = true) : okB M R F B C = true := ((quorate_iff M R F B C x).1 h).1
theorem quorate_every {M R : Int} {F : List Int} {B D C : List Cmd} {x : List Int} (h : quorateB M R F B C x = true) (h1 : ∀ c ∈ B, confB R c = true → c ∈ D) (h2 : ∀ c ∈ D, confB R c = true → c ∈ C) : isQ M (membersL M R F D) x = true :=
  every ((quorate_iff M R F B C x).1 h) (between_of h1 h2)
theorem isQ_size {M : Int} {l x : List Int} (h : isQ M l x = true) : l.length ≤ 12 := by
  unfold isQ validQ at h
  rw [Bool.and_eq_true, Bool.and_eq_true] at h
  exact (of_decide_eq_true h.1.1).2.2
theorem members_len (M R : Int) (F : List Int) (L : List Cmd) : (membersL M R F L).length ≤ 13 := by
  unfold membersL
  split
  · rename_i hu
    have hR := (usable_parts hu).2.1
    unfold orFirst
    split
    · simp
    · exact Nat.le_trans (List.length_filter_le _ _) (by rw [reps_len]; omega)
  · simp
end Go.Proofs.Ytahpecbcpgjinaa
