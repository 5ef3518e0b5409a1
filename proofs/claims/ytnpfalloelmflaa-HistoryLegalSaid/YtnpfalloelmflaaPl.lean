/-
  Chapter 54, plain: indices in range and none twice are a turn of all indices.
-/
import Derived.Test.YtnpfalloelmflaaIx
import Derived.Test.YtnpfalloelmflaaHx
namespace Go.Proofs.Ytnpfalloelmflaa

/-- A list without doubles that lies in another one no longer is a turn of it. -/
theorem perm_of_sub {α : Type} [DecidableEq α] : ∀ (xs ys : List α), xs.Nodup → (∀ x ∈ xs, x ∈ ys) → ys.length ≤ xs.length → xs.Perm ys
  | [], ys, _, _, hl => by
    have : ys = [] := List.length_eq_zero_iff.1 (by simpa using hl)
    subst this; exact List.Perm.refl _
  | x :: xs, ys, hn, hs, hl => by
    have hx : x ∈ ys := hs x (by simp)
    have hp := List.perm_cons_erase hx
    rw [List.nodup_cons] at hn
    have h1 : ∀ z ∈ xs, z ∈ ys.erase x := fun z hz => (List.mem_erase_of_ne (fun e => hn.1 (by rw [← e]; exact hz))).2 (hs z (by simp [hz]))
    have h2 : (ys.erase x).length ≤ xs.length := by
      have := hp.length_eq
      simp at this hl
      omega
    exact ((perm_of_sub xs (ys.erase x) hn.2 h1 h2).cons x).trans hp.symm
theorem idL_nodup (n : Nat) : (idL n).Nodup := by
  unfold idL
  have : (List.range n).Nodup := List.nodup_range
  unfold List.Nodup at *
  rw [List.pairwise_map]
  exact this.imp fun h e => h (by omega)
theorem idx_perm {zs : List Int} (hb : ∀ i ∈ zs, 0 ≤ i ∧ i < zs.length) (hn : zs.Nodup) : zs.Perm (idL zs.length) := by
  refine perm_of_sub zs (idL zs.length) hn (fun x hx => ?_) (by simp [idL])
  have := hb x hx
  unfold idL
  rw [List.mem_map]
  exact ⟨x.toNat, by simp; omega, by omega⟩
theorem perm_idx {zs : List Int} (h : zs.Perm (idL zs.length)) : zs.Nodup := h.nodup_iff.2 (idL_nodup _)
/-- In range and none twice. -/
theorem permB_ind {n : Nat} {order : List Int} (h : order.length = n) : permB order = indB n order := by
  subst h
  unfold permB indB
  rw [decide_eq_decide]
  refine ⟨fun hp => ⟨fun i hi => perm_bd (decide_eq_true hp) i hi, perm_idx hp⟩, fun ⟨h1, h2⟩ => idx_perm h1 h2⟩
end Go.Proofs.Ytnpfalloelmflaa
