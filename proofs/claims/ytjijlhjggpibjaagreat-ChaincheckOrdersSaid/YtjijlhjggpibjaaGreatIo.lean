/-
  Chapter 55: slices.Insert of one set into a list of sets of the call's own: all roads together.
-/
import Derived.Test.YtjijlhjggpibjaaGreatIn
namespace Go.Proofs.YtjijlhjggpibjaaGreat
open Go.RowKit Go.Lib Go.Shelf

theorem append_set1 {ops : Array Oper} {rest : List Oper} {o : Oper} {a : Act} {w : World} {Q : Exit → Act → World → Prop} (hgd : o.guard = none) (s y : Operand)
    (ho : o.op = .call { callee := .builtin .append, args := #[s, y], argTypes := #[28, 28] })
    (base n vb : Nat) (v : Value) (cs : List Value) (x : Value) (hs : a.eval s = v) (hown : w.ownsRow base 33 1 v n cs) (hbig : n ≤ 1000000) (hbase : base ≤ w.heap.size)
    (hy : a.eval y = .slice (some ⟨vb, 0, none⟩) 1 1) (hx : w.cell? ⟨vb, 0, none⟩ = some x) (h1x : x.oneCell' = true)
    (h : ∀ v' w', w'.ownsRow base 33 1 v' (n + 1) (cs ++ [x]) → w.grownBy w' v.ownBlock → wpList Tryz.prog ops Q rest (a.put o.dst v') w') : wpList Tryz.prog ops Q (o :: rest) a w := by
  obtain ⟨i0, hi0, hz0, hzs, hzb⟩ := info_parts Tryz.infoSet
  refine wpList_append_own w hgd s y 28 ho base 33 i0 _ 1 24 Tryz.underlying28 hi0 hz0 hzs hzb rfl (by decide) v n cs hs hown ⟨vb, 0, none⟩ 1 1 [x] hy (by simp) (fun j u hu => ?_) (by simpa using h1x) (by unfold maxLen; omega) (by omega) hbase (fun v' w' h1 h2 _ => h v' w' h1 h2)
  have h0 : j = 0 := by have := (List.getElem?_eq_some_iff.1 hu).1; simpa using this
  subst h0
  have h9 : x = u := by simpa using hu
  subst h9
  exact hx
set_option maxHeartbeats 8000000 in
set_option maxRecDepth 100000 in
/-- At the end. -/
theorem ins_end (base n vb : Nat) (v : Value) (cs : List Value) (x : Value) (w : World) (hown : w.ownsRow base 33 1 v n cs) (hbig : n ≤ 1000000) (hbase : base ≤ w.heap.size)
    (hx : w.cell? ⟨vb, 0, none⟩ = some x) (h1x : x.oneCell' = true) :
    Calls Tryz.prog 30 #[v, .int .i64 (n : Int), .slice (some ⟨vb, 0, none⟩) 1 1] w fun e w' =>
      ∃ v', e = .returned v' ∧ w'.ownsRow base 33 1 v' (n + 1) (cs ++ [x]) ∧ w.grownBy w' v.ownBlock := by
  have mixed : Tryz.prog.follows .mixedOrders = true := by kernel_rfl
  rcases id hown.2 with ⟨rfl, rfl⟩ | ⟨g, cap, cur, rfl, hg, hb, hnc, hm, hs, ht⟩
  · go_enter Tryz.func30, Tryz.ntmps30
    go_wp2_with (at_builtin; refine append_set1 rfl _ _ rfl base _ vb _ cs x rfl hown hbig hbase rfl hx h1x fun v' w' h1 h2 => ?_)
    go_ret
    exact ⟨v', rfl, h1, h2⟩
  · rcases Nat.eq_or_lt_of_le hnc with he | he
    · subst he
      go_enter Tryz.func30, Tryz.ntmps30
      go_wp2_with (at_builtin; refine append_set1 rfl _ _ rfl base _ vb _ cs x rfl hown hbig hbase rfl hx h1x fun v' w' h1 h2 => ?_)
      go_ret
      exact ⟨v', rfl, h1, h2⟩
    · have hci : ¬ (cap = n) := by omega
      go_enter Tryz.func30, Tryz.ntmps30
      go_wp2_with (at_builtin; refine append_set1 rfl _ _ rfl base _ vb _ cs x rfl hown hbig hbase rfl hx h1x fun v' w' h1 h2 => ?_)
      go_ret
      exact ⟨v', rfl, h1, h2⟩
/-- The cells decide. -/
theorem row_cells {w' : World} {base g n c i : Nat} {t : TypeId} {cur c2 : Array Value} {cs : List Value} {x : Value} (hB : Blk w' g t c2) (hs2 : c2.size = c) (hg : base ≤ g) (hcl : cs.length = n) (hi : i < n) (hroom : n + 1 ≤ c) (hm : c ≤ maxLen)
    (hc2 : ∀ j, c2[j]? = if i + 1 ≤ j ∧ j < n + 1 then cs[j - 1]? else if j = i then some x else cur[j]?)
    (hpre : ∀ j, j < i → cur[j]? = cs[j]?) : w'.ownsRow base t 1 (.slice (some ⟨g, 0, none⟩) (n + 1) c) (n + 1) (cs.take i ++ x :: cs.drop i) := by
  refine ⟨by simp; omega, .inr ⟨g, c, c2, rfl, hg, hB, hroom, hm, by omega, ?_⟩⟩
  apply List.ext_getElem?
  intro j
  rw [List.getElem?_take, Array.getElem?_toList]
  by_cases hj : j < (n + 1) * 1
  · rw [if_pos hj, hc2 j]
    by_cases e : i + 1 ≤ j
    · rw [if_pos ⟨e, by omega⟩, List.getElem?_append_right (by rw [List.length_take]; omega), List.length_take, Nat.min_eq_left (by omega)]
      obtain ⟨k, rfl⟩ : ∃ k, j = i + 1 + k := ⟨j - i - 1, by omega⟩
      rw [show i + 1 + k - i = k + 1 by omega, List.getElem?_cons_succ, List.getElem?_drop]
      congr 1
      omega
    · rw [if_neg (fun q => e q.1)]
      by_cases e2 : j = i
      · subst e2
        rw [if_pos rfl, List.getElem?_append_right (by rw [List.length_take]; omega), List.length_take, Nat.min_eq_left (by omega), Nat.sub_self]; rfl
      · rw [if_neg e2, List.getElem?_append_left (by rw [List.length_take]; omega), List.getElem?_take, if_pos (by omega)]
        exact hpre j (by omega)
  · rw [if_neg hj, List.getElem?_eq_none (by simp; omega)]
theorem set_cellsI {w : World} {g i n c : Nat} {t : TypeId} {cur : Array Value} {cs : List Value} {x : Value} (hB : Blk w g t cur) (hs : cur.size = c) (hcl : cs.length = n) (hi : i < n) (hroom : n + 1 ≤ c) :
    ∃ c2, c2.size = c ∧ Blk ((w.drew.setCells g (i + 1) (cs.drop i)).setCells g i [x]) g t c2 ∧ ∀ j, c2[j]? = if i + 1 ≤ j ∧ j < n + 1 then cs[j - 1]? else if j = i then some x else cur[j]? := by
  have hBd : Blk w.drew g t cur := hB
  obtain ⟨c1, hs1, hB1⟩ := blk_setCells (cs.drop i) (i + 1) _ _ hBd
  obtain ⟨c2, hs2, hB2⟩ := blk_setCells [x] i _ _ hB1
  have hdl : (cs.drop i).length = n - i := by rw [List.length_drop, hcl]
  have hc1 : ∀ j, c1[j]? = if i + 1 ≤ j ∧ j < n + 1 then cs[j - 1]? else cur[j]? := fun j => by
    rw [← hB1.cell j]
    by_cases e : i + 1 ≤ j ∧ j < n + 1
    · rw [if_pos e]
      have := World.cell?_setCells_in g (cs.drop i) (i + 1) w.drew (fun k hk => by
        rw [hdl] at hk
        rw [hBd.cell (i + 1 + k), Array.getElem?_eq_getElem (by omega)]; rfl) (j - (i + 1)) (by omega)
      rw [show i + 1 + (j - (i + 1)) = j by omega] at this
      rw [this, List.getElem_drop, List.getElem?_eq_getElem (by omega)]
      congr 2
      omega
    · rw [if_neg e, World.cell?_setCells_out g (cs.drop i) (i + 1) _ ⟨g, j, none⟩ (fun _ _ => by rw [hdl]; show j < i + 1 ∨ i + 1 + (n - i) ≤ j; omega), hBd.cell j]
  refine ⟨c2, by omega, hB2, fun j => ?_⟩
  rw [← hB2.cell j]
  by_cases e : j = i
  · subst e
    rw [if_neg (by omega), if_pos rfl]
    have := World.cell?_setCells_in g [x] j (w.drew.setCells g (j + 1) (cs.drop j)) (fun k hk => by
      have h0 : k = 0 := by simpa using hk
      subst h0
      rw [hB1.cell (j + 0), Array.getElem?_eq_getElem (by omega)]; rfl) 0 (by simp)
    simpa using this
  · rw [World.cell?_setCells_out g [x] i _ ⟨g, j, none⟩ (fun _ _ => by simp; omega), hB1.cell j, hc1 j, if_neg e]
theorem grown_setCells {w w' : World} {g : Nat} (h : w.grownBy w' (some g)) : ∀ (vs : List Value) (o : Nat), w.grownBy (w'.setCells g o vs) (some g) := by
  intro vs o
  have q : Below 0 w w' := ⟨h.os, h.tape, h.output, h.size, fun k hk => by omega⟩
  have q2 := below_setCellsI (Nat.zero_le g) vs o w' q
  exact ⟨q2.os, q2.tape, q2.output, q2.size, fun k hk hne => by rw [heap_setCells (fun e => hne (by rw [e])) vs o w']; exact h.block k hk hne⟩
theorem below_drewI {B : Nat} {W w : World} (h : Below B W w) : Below B W w.drew := ⟨h.os, h.tape, h.output, h.size, h.block⟩
/-- slices.Insert of one set into an own list of sets. -/
theorem insert_own (base n i vb : Nat) (v : Value) (cs : List Value) (x : Value) (w : World) (tv : TypeId) (hown : w.ownsRow base 33 1 v n cs) (hi : i ≤ n) (hbig : n ≤ 1000000) (hbase : base ≤ w.heap.size)
    (hx : Blk w vb tv #[x]) (hvb : some vb ≠ v.ownBlock) (h1x : x.oneCell' = true) (h1c : ∀ v ∈ cs, v.oneCell' = true) :
    Calls Tryz.prog 30 #[v, .int .i64 (i : Int), .slice (some ⟨vb, 0, none⟩) 1 1] w fun e w' =>
      ∃ v', e = .returned v' ∧ w'.ownsRow base 33 1 v' (n + 1) (cs.take i ++ x :: cs.drop i) ∧ w.grownBy w' v.ownBlock := by
  have hxc : w.cell? ⟨vb, 0, none⟩ = some x := by rw [hx.cell 0]; rfl
  have hcl : cs.length = n := by rw [hown.1]; omega
  rcases Nat.eq_or_lt_of_le hi with rfl | hi
  · have h := ins_end base i vb v cs x w hown hbig hbase hxc h1x
    rwa [show cs.take i ++ x :: cs.drop i = cs ++ [x] by rw [List.take_of_length_le (by omega), List.drop_eq_nil_of_le (by omega)]]
  · rcases id hown.2 with ⟨rfl, rfl⟩ | ⟨g, cap, cur, rfl, hg, hb, hnc, hm, hs, ht⟩
    · omega
    · have hB : Blk w g 33 cur := hb
      have hvg : vb ≠ g := fun e => hvb (by rw [e]; rfl)
      have hcu : ∀ j, j < n → cur[j]? = cs[j]? := fun j hj => by
        rw [← ht, List.getElem?_take, if_pos (by omega), Array.getElem?_toList]
      have hcs : ∀ j v, cs[j]? = some v → w.cell? ⟨g, j, none⟩ = some v := fun j v hj => by
        rw [hB.cell j, hcu j (by have := (List.getElem?_eq_some_iff.1 hj).1; omega), hj]
      have hmm : maxLen ≤ 9223372036854775807 := by decide
      have hsz : ∀ j, j < cap → (w.cell? ⟨g, j, none⟩).isSome = true := fun j hj => by rw [hB.cell j, Array.getElem?_eq_getElem (by omega)]; rfl
      by_cases hroom : n + 1 ≤ cap
      · refine (ins_shift g n cap i vb cs x w hi hroom (by omega) hvg hcl hcs (fun j hj => hsz j (by omega)) (fun j _ => hB.frozen j) hxc h1c h1x tv 33 1 cap (by unfold World.shape?; rw [hx]; rfl) (by unfold World.shape?; rw [hb]; simp; omega) (by omega) (hx.frozen 0) (hx.frozen 1)).mono ?_
        rintro e w' ⟨rfl, rfl⟩
        obtain ⟨c2, q1, q2, q3⟩ := set_cellsI (x := x) hB (by omega) hcl hi hroom
        refine ⟨_, rfl, row_cells q2 q1 hg hcl hi hroom hm q3 (fun j hj => hcu j (by omega)), ?_⟩
        exact grown_setCells (w := w) (grown_setCells (w := w) (w' := w.drew) ⟨rfl, rfl, rfl, Nat.le_refl _, fun _ _ _ => rfl⟩ _ _) _ _
      · refine (ins_grow g n cap i vb cs x w hi hnc (by omega) (by omega) hcl hcs hxc h1c h1x).mono ?_
        rintro e w' ⟨rfl, rfl⟩
        obtain ⟨G, hG⟩ : ∃ G, G = grownCap w (n + 1) cap 33 := ⟨_, rfl⟩
        have hGn : n + 1 ≤ G := by rw [hG]; exact grownCap_ge w _ _ _
        have hGm : G ≤ maxLen := by rw [hG]; exact grownCap_le_maxLen w (n + 1) cap 33 (by unfold maxLen; omega)
        rw [← hG]
        have hcl2 : (cs.take i).length = i := by rw [List.length_take]; omega
        have hgw : w.grownBy ((w.alloc (.cells ((cs.take i).toArray ++ Builtin.zeroCells (Value.slice none 0 0).cells (n + 1 - i) ++ Builtin.zeroCells (Value.slice none 0 0).cells (G - (n + 1))) 33)).drew) (some g) :=
          ⟨rfl, rfl, rfl, Nat.le_of_lt (by rw [World.size_drew, World.size_alloc]; omega), fun k hk _ => Below.heap_alloc w _ k hk⟩
        refine ⟨_, rfl, row_two (cur := (cs.take i).toArray ++ Builtin.zeroCells (Value.slice none 0 0).cells (n + 1 - i) ++ Builtin.zeroCells (Value.slice none 0 0).cells (G - (n + 1))) ⟨(w.alloc _).drew, Blk.new w _ _, fun _ => rfl, rfl⟩ ?_ hbase hcl hi hGn hGm (fun j hj => ?_), ?_⟩
        · simp [Builtin.zeroCells, Value.cells]
          omega
        · rw [Array.append_assoc, Array.getElem?_append_left (by simp; omega)]
          simp [hj]
        · have q0 : Below w.heap.size w _ := ⟨hgw.os, hgw.tape, hgw.output, hgw.size, fun k hk => Below.heap_alloc w _ k hk⟩
          have q := below_setCellsI (Nat.le_refl w.heap.size) (cs.drop i) (i + 1) _ (below_drewI (below_setCellsI (Nat.le_refl _) [x] i _ q0))
          exact ⟨q.os, q.tape, q.output, q.size, fun k hk _ => q.block k hk⟩
end Go.Proofs.YtjijlhjggpibjaaGreat
