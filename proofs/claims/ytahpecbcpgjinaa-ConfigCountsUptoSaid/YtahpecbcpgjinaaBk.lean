/-
  What the bulk of a reading bounds: the number of elements of a slice.
-/
import Derived.Test.YtahpecbcpgjinaaLp
import Derived.Test.YtahpecbcpgjinaaRows
import Derived.Deep.Slices
import Derived.JoinedCond
namespace Go.Proofs.Ytahpecbcpgjinaa

theorem bulk_one {H : Type} (d : DataW H) : 1 ≤ Rows.uptoBulk d := by
  cases d with
  | lit l => cases l <;> simp [Rows.uptoBulk]
  | nil => simp [Rows.uptoBulk]
  | ptr d => simp [Rows.uptoBulk]
  | slice elems spare => simp [Rows.uptoBulk]
  | agg parts => simp [Rows.uptoBulk]
  | iface t d => simp [Rows.uptoBulk]
  | map entries => simp [Rows.uptoBulk]
  | held h => simp [Rows.uptoBulk]
theorem bulk_all {H : Type} (l : List (DataW H)) : l.length ≤ Rows.uptoBulkAll l := by
  induction l with
  | nil => simp [Rows.uptoBulkAll]
  | cons x r ih => have := bulk_one x; simp only [Rows.uptoBulkAll, List.length_cons]; omega
theorem bulk_slice {H : Type} {enc : TypeId × Value → H} {W : World} {t e : TypeId} {ao : Option Addr} {n cap : Nat} {d : DataW H} {p : List MemPlace}
    (ht : Try.prog.underlying t = some (.slice e)) (h : DataW.Trod enc Try.prog W 0 (fun _ => true) true t (.slice ao n cap) d p) : n ≤ Rows.uptoBulk d := by
  obtain ⟨fuel, hf⟩ := h
  simp only [Value.cells] at hf
  rcases Deep.open_slice ht hf with ⟨hcs, _⟩ | ⟨a, len, cap', m, k, D, Pl, hcs, _, _, _, _, hx, _⟩
  · injection hcs with hcs _
    injection hcs with _ hn _
    omega
  · injection hcs with hcs _
    injection hcs with _ hn _
    injection hx with hd _
    subst hd hn
    have h1 := bulk_all ((List.range n).map D)
    simp only [List.length_map, List.length_range] at h1
    simp only [Rows.uptoBulk]
    omega
end Go.Proofs.Ytahpecbcpgjinaa
