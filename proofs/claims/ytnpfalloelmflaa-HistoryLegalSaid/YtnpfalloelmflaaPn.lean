/-
  Chapter 54, plain: what needs the permutations (legal orders have indices; the order by the end respects).
-/
import Derived.Test.YtnpfalloelmflaaPm
import Derived.Test.YtnpfalloelmflaaPl
namespace Go.Proofs.Ytnpfalloelmflaa
open Go.RowKit

theorem by_resp {h : List Opn} {l : List Int} (hw : Well h) (hp : l.Perm (idL h.length)) (hs : srtA h l) (hn : ∀ x ∈ h, ¬ endO x = -1) : respB h l = true := by
  have hl : l.length = h.length := by rw [hp.length_eq]; simp [idL]
  refine resp_ok (decide_eq_true (by rw [hl]; exact hp)) hl ?_
  intro a b ha hb hab
  have hr : ∀ j (hj : j < l.length), l[j].toNat < h.length := fun j hj => by
    have := hp.mem_iff.1 (List.getElem_mem hj)
    unfold idL at this
    obtain ⟨q, hq, he⟩ := List.mem_map.1 this
    rw [List.mem_range] at hq
    omega
  have h1 := hs a b ha hb hab
  unfold endAt at h1
  rw [List.getElem?_eq_getElem (hr a ha), List.getElem?_eq_getElem (hr b hb)] at h1
  simp only [] at h1
  unfold precAt
  rw [List.getElem?_eq_getElem (hr a ha), List.getElem?_eq_getElem (hr b hb)]
  simp only []
  have h2 := (form_of (hw.1 _ (List.getElem_mem (hr a ha)))).2.2.1
  have h3 := hn _ (List.getElem_mem (hr a ha))
  refine decide_eq_false ?_
  rintro ⟨_, h4⟩
  omega
theorem idL_succ (n : Nat) : idL (n + 1) = idL n ++ [(n : Int)] := by simp [idL, List.range_succ]
end Go.Proofs.Ytnpfalloelmflaa
