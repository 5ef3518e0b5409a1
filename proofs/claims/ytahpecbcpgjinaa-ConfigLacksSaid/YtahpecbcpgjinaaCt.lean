/-
  Chapter 39: two operations of a drawn region that may come in either order.
-/
import Derived.Test.YtahpecbcpgjinaaCs
namespace Go.Proofs.Ytahpecbcpgjinaa
open Go.RowKit

/-- One operation of a region. -/
def stepOf (P : Program) (ops : Array Oper) (Q : Exit → Act → World → Prop) (o : Oper) (K : Act → World → Prop) (a : Act) (w : World) : Prop :=
  if Region.wanted o (yielded ops a.tmps) = true then Oper.wp P o a w K Q else K (a.put o.dst undef) w

theorem wpAnyH_two {P : Program} {md : Region.Mode} {ops : Array Oper} {Q : Exit → Act → World → Prop} {S : World → Prop} {i j : Nat} {oi oj : Oper} {fuel : Nat} {L : Array Bool} {a : Act} {w : World}
    (R : Value → Value → World → Prop) (hi : ops[i]? = some oi) (hj : ops[j]? = some oj) (hne : i ≠ j) (hr : Region.ready md ops L = [i, j]) (hri : Region.ready md ops (L.setIfInBounds i true) = [j]) (hrj : Region.ready md ops (L.setIfInBounds j true) = [i])
    (hput : ∀ x y, (a.put oj.dst y).put oi.dst x = (a.put oi.dst x).put oj.dst y)
    (h1 : ∀ K : Act → World → Prop, Shut (∀ x w1, S w1 → (∀ K2 : Act → World → Prop, Shut (∀ y w2, S w2 → R x y w2 → K2 ((a.put oi.dst x).put oj.dst y) w2) → stepOf P ops Q oj K2 (a.put oi.dst x) w1) → K (a.put oi.dst x) w1) → stepOf P ops Q oi K a w)
    (h2 : ∀ K : Act → World → Prop, Shut (∀ y w1, S w1 → (∀ K2 : Act → World → Prop, Shut (∀ x w2, S w2 → R x y w2 → K2 ((a.put oj.dst y).put oi.dst x) w2) → stepOf P ops Q oi K2 (a.put oj.dst y) w1) → K (a.put oj.dst y) w1) → stepOf P ops Q oj K a w)
    (next : ∀ x y w2, S w2 → R x y w2 → wpAnyH P md ops Q S fuel ((L.setIfInBounds i true).setIfInBounds j true) ((a.put oi.dst x).put oj.dst y) w2) : wpAnyH P md ops Q S (fuel + 2) L a w := by
  refine wpAnyH_ready hr (by simp) ?_
  refine AllReadyH.cons hi (fun K hK => ?_) (AllReadyH.cons hj (fun K hK => ?_) AllReadyH.nil)
  · refine h1 K fun x w1 hS hstep => hK.out _ _ hS fun hS => wpAnyH_ready hri (by simp) (AllReadyH.cons hj (fun K2 hK2 => ?_) AllReadyH.nil)
    exact hstep K2 fun y w2 hS2 hR => hK2.out _ _ hS2 fun hS2 => next x y w2 hS2 hR
  · refine h2 K fun y w1 hS hstep => hK.out _ _ hS fun hS => wpAnyH_ready hrj (by simp) (AllReadyH.cons hi (fun K2 hK2 => ?_) AllReadyH.nil)
    refine hstep K2 fun x w2 hS2 hR => hK2.out _ _ hS2 fun hS2 => ?_
    rw [hput, Array.setIfInBounds_comm _ _ (fun e => hne e.symm)]
    exact next x y w2 hS2 hR

/-- A beginning and an end of a list of commands. -/
theorem ReadsC.front {w : World} {b n c k : Nat} {xs : List Cmd} (h : ReadsC w (.slice (some ⟨b, 0, none⟩) n c) xs) (hk : k ≤ n) (h0 : 0 < k) : ReadsC w (.slice (some ⟨b, 0, none⟩) k c) (xs.take k) := by
  obtain ⟨ao, cap, hv, hl, hm, hn, hx⟩ := h
  injection hv with e1 e2 e3
  subst e1 e2 e3
  have hne : xs ≠ [] := by intro e; subst e; simp at hk; omega
  obtain ⟨b', off, e, hb, hc⟩ := hx hne
  injection e with e
  injection e with e1 e2
  subst e1 e2
  have hlen : (xs.take k).length = k := by simp; omega
  refine ⟨_, c, by rw [hlen], by omega, hm, (fun h => by cases h), fun _ => ⟨b, 0, rfl, hb, fun j hj => ?_⟩⟩
  rw [List.getElem_take]
  exact hc j (by omega)
theorem ReadsC.back {w : World} {b n c k : Nat} {xs : List Cmd} (h : ReadsC w (.slice (some ⟨b, 0, none⟩) n c) xs) (hk : k < n) : ReadsC w (.slice (some ⟨b, k * 6, none⟩) (n - k) (c - k)) (xs.drop k) := by
  obtain ⟨ao, cap, hv, hl, hm, hn, hx⟩ := h
  injection hv with e1 e2 e3
  subst e1 e2 e3
  have hne : xs ≠ [] := by intro e; subst e; simp at hk
  obtain ⟨b', off, e, hb, hc⟩ := hx hne
  injection e with e
  injection e with e1 e2
  subst e1 e2
  have hlen : (xs.drop k).length = xs.length - k := by simp
  refine ⟨_, c - k, by rw [hlen], by omega, by omega, (fun h => by cases h), fun _ => ⟨b, k * 6, rfl, hb, fun j hj => ?_⟩⟩
  obtain ⟨cs, h1, h2, h3⟩ := hc (k + j) (by simp at hj; omega)
  refine ⟨cs, h1, fun i u hu => ?_, ?_⟩
  · have := h2 i u hu
    rwa [show 0 + (k + j) * 6 + i = k * 6 + j * 6 + i by omega] at this
  · rw [List.getElem_drop]; exact h3
end Go.Proofs.Ytahpecbcpgjinaa
