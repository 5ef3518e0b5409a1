/-
  Appending a read slice of ints to an own row, and where the new slice lies.
-/
import Derived.Test.YtnpfalloelmflaaAp
import Derived.Maps.AppendAt
namespace Go.Proofs.Ytnpfalloelmflaa
open Go.RowKit

theorem appendi_at {ops : Array Oper} {rest : List Oper} {o : Oper} {a : Act} {w : World} {Q : Exit → Act → World → Prop} (hgd : o.guard = none) (s x : Operand)
    (ho : o.op = .call { callee := .builtin .append, args := #[s, x], argTypes := #[37, 37] })
    (base : Nat) (v u : Value) (n : Nat) (xs ys : List Int) (hs : a.eval s = v) (hown : w.ownsRow base 3 1 v n (xs.map vi)) (hx : a.eval x = u) (hu : Reads vi w u ys) (hlen : n + ys.length ≤ 1000000) (hbase : base ≤ w.heap.size)
    (h : ∀ v' w', w'.ownsRow base 3 1 v' (n + ys.length) ((xs ++ ys).map vi) → w.grownBy w' v.ownBlock → (v'.ownBlock = v.ownBlock ∨ v'.ownBlock = some w.heap.size) → wpList Try.prog ops Q rest (a.put o.dst v') w') : wpList Try.prog ops Q (o :: rest) a w := by
  obtain ⟨i0, hinf, hz0, hz1, hz2⟩ := info_parts Try.infoInt1
  obtain ⟨au, c, rfl, hl⟩ := hu
  have hu : Reads vi w (.slice au ys.length c) ys := ⟨au, c, rfl, hl⟩
  cases au with
  | none =>
    obtain ⟨h0, hc, rfl⟩ := Reads.none hu
    subst hc
    refine wpList_append_own_none hgd s x 37 ho base 3 i0 1 Try.underlying37 hinf v n (xs.map vi) hs hown hx ?_
    exact h v w (by simpa using hown) (grown_refl _ _) (.inl rfl)
  | some au =>
    obtain ⟨_, hc⟩ := src_cells hu
    refine wpList_append_own_at w hgd s x 37 ho base 3 i0 (.int .i64 0) 1 8 Try.underlying37 hinf hz0 hz1 hz2 rfl (by decide) v n (xs.map vi) hs hown au ys.length c (ys.map vi) hx (by simp) hc (one_vi _) (by unfold maxLen; omega) (by omega) hbase ?_
    intro v' w' h1 h2 _ h3
    exact h v' w' (by rw [List.map_append]; exact h1) h2 h3
/-- Two rows of the call's own that lie apart. -/
def Apart (u v : Value) : Prop := ∀ k, u.ownBlock = some k → v.ownBlock ≠ some k
theorem Apart.symm {u v : Value} (h : Apart u v) : Apart v u := fun k hk hu => h k hu hk
theorem Apart.ne {u v : Value} (h : Apart u v) : v.ownBlock = Option.none ∨ v.ownBlock ≠ u.ownBlock := by
  cases hv : v.ownBlock with
  | none => exact .inl rfl
  | some k => exact .inr fun e => h k e.symm hv
theorem Apart.new {w : World} {base n N : Nat} {e : TypeId} {s : Nat} {u v v' : Value} {xs : List Value} (h : Apart v u) (hu : w.ownsRow base e s u n xs) (hw : w.heap.size ≤ N) (hv : v'.ownBlock = v.ownBlock ∨ v'.ownBlock = some N) : Apart v' u := by
  intro k hk he
  rcases hv with h1 | h1
  · exact h k (h1 ▸ hk) he
  · rw [h1] at hk
    injection hk with hk
    have := (hu.lt k he).2
    omega
theorem one_reads (w : World) (x : Int) : Reads vi (w.alloc (.cells #[.int .i64 x] 3)) (.slice (some ⟨w.heap.size, 0, Option.none⟩) 1 1) [x] :=
  Reads.at (xs := [x]) (Nat.le_refl 1) (by unfold maxLen; omega) (by simp) fun j hj => by
    have h0 : j = 0 := by simpa using hj
    subst h0
    exact (Blk.new w 3 #[.int .i64 x]).cell 0
end Go.Proofs.Ytnpfalloelmflaa
