/-
  Chapter 29: slices.Delete of one event of a row of the call's own.
-/
import Derived.Test.YtfdicndmebhmdaaEk
import Derived.Deep.RegionLaw
namespace Go.Proofs.Ytfdicndmebhmdaa
open Go.RowKit

/-- append where there is room, into a row that is known whole, as one step of a region that draws its order. -/
theorem step_append_row {P : Program} {ops : Array Oper} {o : Oper} {a : Act} {w : World} {K : Act → World → Prop} {Q : Exit → Act → World → Prop} {E : Prop}
    (hg : o.guard = none) (s x : Operand) (t : TypeId) (hop : o.op = Op.call { callee := Callee.builtin Builtin.append, args := #[s, x], argTypes := #[t, t] })
    (e : TypeId) (i : TypeInfo) (h1 : P.underlying t = some (.slice e)) (h2 : P.info? e = some i)
    (g n cap : Nat) (cur : Array Value) (hB : w.heap[g]? = some (.cells cur e (0, 0))) (hs : a.eval s = .slice (some ⟨g, 0, none⟩) n cap)
    (ad : Addr) (m c : Nat) (news : List Value) (hx : a.eval x = .slice (some ad) m c) (hn : news.length = m * i.size) (hc : ∀ j u, news[j]? = some u → w.cell? (ad.add j) = some u) (h1c : ∀ u ∈ news, u.oneCell' = true)
    (hroom : n + m ≤ cap) (hfit : n * i.size + news.length ≤ cur.size)
    (hK : K (a.put o.dst (.slice (some ⟨g, 0, none⟩) (n + m) cap)) (w.setRow g (cur.toList.take (n * i.size) ++ news ++ cur.toList.drop (n * i.size + news.length)).toArray)) :
    if Region.wanted o (yielded ops a.tmps) = true then Oper.wp P o a w K Q else E := by
  have hw : Region.wanted o (yielded ops a.tmps) = true := by simp [Region.wanted, hg]
  rw [if_pos hw]
  have hrun := run_append_room (P := P) w t o.type e i h1 h2 g n cap cur hB ad m c news hn hc h1c hroom hfit
  unfold Oper.wp
  unfold execOp
  simp only [hop, resolve, invoke, builtin, Sem.run_bind, Sem.run_pure, Result.andThen_ok, List.map_toArray, List.map_cons, List.map_nil, hs, hx, hrun]
  exact hK
/-- clear of one event. -/
theorem run_clear_ev (w : World) (ty : TypeId) (g k c : Nat) (cur : Array Value) (hB : w.heap[g]? = some (.cells cur 29 (0, 0))) (hk : k + 2 ≤ cur.size) :
    (Builtin.clear_ #[22] ty #[.slice (some ⟨g, k, none⟩) 1 c]).run Try.prog w = .ok (.tuple #[]) (w.setRow g (cur.toList.take k ++ [Value.int .i64 0, Value.slice none 0 0] ++ cur.toList.drop (k + 2)).toArray) := by
  have hv : ∀ w, (zeroValue 29).run Try.prog w = .ok (.agg #[.int .i64 0, .slice none 0 0]) w := fun w => Try.zeroValue29 w
  have hst := run_storeCells_at Try.prog g k 29 [.int .i64 0, .slice none 0 0] 0 cur w hB (by simpa using hk) (by intro u hu; simp only [List.mem_cons, List.not_mem_nil, or_false] at hu; rcases hu with rfl | rfl <;> rfl)
  simp only [Nat.add_zero] at hst
  have hzc : (Builtin.zeroCells (Value.agg #[.int .i64 0, .slice none 0 0]).cells 1).toList = [Value.int .i64 0, Value.slice none 0 0] := by kernel_rfl
  simp [Builtin.clear_, run_underlying Try.underlying22, hv, hzc, hst]

def delA (cells : List Value) (i : Nat) : List Value := cells.take (i * 2) ++ cells.drop ((i + 1) * 2)
set_option maxRecDepth 100000 in
set_option maxHeartbeats 2000000 in
theorem delete_any (B g n cap i : Nat) (cells : List Value) (w : World) (h : w.ownsRow B 29 2 (.slice (some ⟨g, 0, none⟩) n cap) n cells) (hi : i < n) (hn : n ≤ 1000) (h1 : ∀ u ∈ cells, u.oneCell' = true) :
    Calls Try.prog 49 #[.slice (some ⟨g, 0, none⟩) n cap, .int .i64 (i : Int), .int .i64 ((i + 1 : Nat) : Int)] w fun e w' =>
      e = .returned (.slice (some ⟨g, 0, none⟩) (n - 1) cap) ∧ w'.ownsRow B 29 2 (.slice (some ⟨g, 0, none⟩) (n - 1) cap) (n - 1) (delA cells i) ∧ Kept (fun b => b = g) w w' := by
  obtain ⟨i0, hinf, hz0, hz1, hz2⟩ := info_parts Try.infoEv
  obtain ⟨hlen, hx⟩ := h
  rcases hx with ⟨e, _⟩ | ⟨g', cap', cur, e, hbg, hB, hnc, hcm, hsz, htk⟩
  · cases e
  injection e with e1 e2 e3
  injection e1 with e1
  injection e1 with e1
  subst e1 e3
  obtain ⟨j, hj⟩ : ∃ j, j = i + 1 := ⟨_, rfl⟩
  rw [← hj]
  have hij : i < j := by omega
  have hjn : j ≤ n := by omega
  obtain ⟨news, hnews⟩ : ∃ news, news = cells.drop (j * 2) := ⟨_, rfl⟩
  have hnl : news.length = (n - j) * 2 := by rw [hnews, List.length_drop, hlen]; omega
  obtain ⟨A, hA, hsrc⟩ : ∃ A : Addr, (if cap = j then some (⟨g, 0, none⟩ : Addr) else some ⟨g, j * 2, none⟩) = some A ∧ Hid (∀ t u, news[t]? = some u → w.drew.cell? (A.add t) = some u) := by
    by_cases hc : cap = j
    · refine ⟨⟨g, 0, none⟩, by simp [hc], fun t u hu => ?_⟩
      have h0 : news.length = 0 := by rw [hnl]; omega
      rw [List.length_eq_zero_iff.1 h0] at hu
      simp at hu
    · refine ⟨⟨g, j * 2, none⟩, by simp [hc], fun t u hu => ?_⟩
      have ht : t < (n - j) * 2 := by rw [← hnl]; exact (List.getElem?_eq_some_iff.1 hu).1
      rw [hnews, List.getElem?_drop, ← htk, List.getElem?_take, if_pos (by omega), Array.getElem?_toList] at hu
      rw [Addr.add_lit]
      show w.cell? _ = _
      rw [cell_of_row w g _ cur _ (0, 0) hB]
      exact hu
  have hsz2 : cur.size = cap * 2 := hsz
  obtain ⟨c1, hc1⟩ : ∃ c1 : Array Value, c1 = (cur.toList.take (i * 2) ++ news ++ cur.toList.drop (i * 2 + news.length)).toArray := ⟨_, rfl⟩
  have hc1s : c1.size = cur.size := by rw [hc1]; simp; omega
  obtain ⟨W1, hW1⟩ : ∃ W1, W1 = w.drew.setRow g c1 := ⟨_, rfl⟩
  have hB1 : W1.heap[g]? = some (.cells c1 29 (0, 0)) := by rw [hW1]; exact setRow_heap w.drew g cur c1 _ _ hB
  obtain ⟨c2, hc2⟩ : ∃ c2 : Array Value, c2 = (c1.toList.take ((n - 1) * 2) ++ [Value.int .i64 0, Value.slice none 0 0] ++ c1.toList.drop ((n - 1) * 2 + 2)).toArray := ⟨_, rfl⟩
  have hcl : ∀ ty c, (Builtin.clear_ #[22] ty #[.slice (some ⟨g, (n - 1) * 2, none⟩) 1 c]).run Try.prog W1 = .ok (.tuple #[]) (W1.setRow g c2) := fun ty c => by
    rw [hc2]
    exact run_clear_ev W1 ty g ((n - 1) * 2) c c1 hB1 (by rw [hc1s, hsz2]; omega)
  have hsz1 := hc1s
  have HB1 := Lib.hid (And.intro hB1 (And.intro hsz1 (And.intro hsz (And.intro htk (And.intro hlen (And.intro hnews hnl))))))
  have HBB := Lib.hid (And.intro hbg (And.intro hnc hcm))
  have HB := Lib.hid hB
  clear hsz1
  have HIN := Lib.hid (And.intro hinf (And.intro hz1 (And.intro hnl hB)))
  have HFIT : Hid (i * 2 + news.length ≤ cur.size) := Lib.hid (by rw [hnl, hsz2]; omega)
  have HONE : Hid (∀ u ∈ news, u.oneCell' = true) := Lib.hid fun u hu => by rw [hnews] at hu; exact h1 u (List.mem_of_mem_drop hu)
  have HW1 := Lib.hid hW1
  have HC1 := Lib.hid hc1
  have hic : i ≤ cap := by omega
  have hjc : j ≤ cap := by omega
  unfold maxLen at hcm
  have HJ := Lib.hid hj
  have hjn2 : (j : Int) ≤ n := by omega
  have hjc2 : (j : Int) ≤ cap := by omega
  have hij2 : (i : Int) ≤ j := by omega
  have hj0 : (0 : Int) ≤ j := by omega
  clear hj hB hinf hz0 hz1 hz2 hW1 hnl hc1 hc1s hsz2 hB1
  have hii : ((i : Int) == (j : Int)) = false := beq_f (by omega)
  go_enter Try.func49, Try.ntmps49
  go_wp2_with fail
  go_region_law (refine step_append_row rfl (.tmp 22) (.tmp 25) 22 rfl 29 i0 Try.underlying22 HIN.out.1 g i cap cur HIN.out.2.2.2 (by simp [Act.eval, Act.put]) A (n - j) (cap - j) news (by simp [Act.eval, Act.put]) (by rw [HIN.out.2.1]; exact HIN.out.2.2.1) hsrc.out HONE.out (by omega) (by rw [HIN.out.2.1]; exact HFIT.out) ?_; rw [HIN.out.2.1, ← HC1.out, ← HW1.out])
  obtain ⟨p, hp⟩ : ∃ p, p = n - 1 := ⟨_, rfl⟩
  have e1 : i + (n - j) = p := by have := HJ.out; omega
  have e2 : n - p = 1 := by omega
  have hpn : (p : Int) ≤ n := by omega
  have hp0 : (0 : Int) ≤ p := by omega
  have hpc : ¬ cap = p := by omega
  have hnc2 : (n : Int) ≤ cap := by omega
  have HP := Lib.hid hp
  rw [← hp] at hcl hc2
  rw [e1]
  have HC2 := Lib.hid hc2
  clear hp e1 hA hc2 hii
  go_wp2
  go_ret
  obtain ⟨b1, b2, b3, b4, b5, b6, b7⟩ := HB1.out
  have hpp := HP.out
  have hjj := HJ.out
  have hl2 : c2.size = c1.size := by rw [HC2.out]; simp; omega
  refine ⟨by rw [hpp]; rfl, ⟨?_, .inr ⟨g, cap, c2, rfl, HBB.out.1, setRow_heap W1 g c1 c2 _ _ b1, by omega, HBB.out.2.2, by rw [hl2, b2, b3], ?_⟩⟩, ?_⟩
  · unfold delA
    rw [List.length_append, List.length_take, List.length_drop, b5]
    omega
  · rw [HC2.out, ← hpp]
    rw [List.append_assoc, List.take_append_of_le_length (by simp; omega), List.take_take, Nat.min_self, HC1.out]
    have h2 : i * 2 + news.length = p * 2 := by rw [b7]; omega
    have h3 : (cur.toList.take (i * 2) ++ news).length = p * 2 := by rw [List.length_append, List.length_take, Array.length_toList, b7, b3]; omega
    rw [← h3, List.take_left]
    unfold delA
    rw [← hjj, ← b6, ← b4, List.take_take, show min (i * 2) (n * 2) = i * 2 by omega]
  · have hs : ∀ (w : World) (c : Array Value), Kept (fun b => b = g) w (w.setRow g c) := fun w c => ⟨rfl, rfl, rfl, by simp [World.setRow], fun k _ hk => setRow_other w g k c (fun e => hk e)⟩
    refine Kept.trans ?_ (hs W1 c2)
    rw [HW1.out]
    exact (show Kept (fun b => b = g) w w.drew from ⟨rfl, rfl, rfl, Nat.le_refl _, fun _ _ _ => rfl⟩).trans (hs w.drew c1)
end Go.Proofs.Ytfdicndmebhmdaa
