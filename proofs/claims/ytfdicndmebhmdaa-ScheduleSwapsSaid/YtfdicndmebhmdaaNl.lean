/-
  Chapter 29: lists of traces of the call's own whose uses are read in an earlier world.
-/
import Derived.Test.YtfdicndmebhmdaaNn
namespace Go.Proofs.Ytfdicndmebhmdaa
open Go.RowKit

def EvsW (W1 w : World) (u : Value) (L : List Ev) : Prop := ∃ cells : List Value, w.ownsRow 0 29 2 u L.length cells ∧ ∀ k (h : k < L.length), ∃ cs : List Value, cs.length = 2 ∧ (∀ i, i < 2 → cells[k * 2 + i]? = cs[i]?) ∧ EvE W1 cs L[k]
section
variable {W1 w w' : World} {u v : Value} {L y : List Ev} {LL : List (List Ev)} {B : Nat}
theorem EvsW.on (h : EvsW W1 w u L) (hb : Below w.heap.size w w') : EvsW W1 w' u L := by
  obtain ⟨cells, h1, h2⟩ := h
  exact ⟨cells, below_row h1 hb, h2⟩
theorem EvsW.readsW (h : EvsW W1 w u L) : ReadsW W1 w u L := by
  obtain ⟨cells, hown, hc⟩ := h
  rcases hown.2 with ⟨rfl, h0⟩ | ⟨g, cap, cur, rfl, hbg, hg, hn, hm, hs, ht⟩
  · have : L = [] := List.length_eq_zero_iff.1 h0
    subst this
    exact ReadsK.nil w
  · refine ⟨_, cap, rfl, hn, hm, (fun e => by cases e), fun _ => ⟨g, 0, rfl, (Array.getElem?_eq_some_iff.1 hg).1, fun j hj => ?_⟩⟩
    obtain ⟨cs, h1, h2, h3⟩ := hc j hj
    refine ⟨cs, h1, fun i u hu => ?_, h3⟩
    have hi : i < 2 := by have := (List.getElem?_eq_some_iff.1 hu).1; omega
    rw [cell_of_row w g _ cur _ (0, 0) hg, Nat.zero_add]
    have h4 := h2 i hi
    rw [hu, ← ht, List.getElem?_take, if_pos (by omega), Array.getElem?_toList] at h4
    exact h4
theorem EvsW.grown (h : EvsW W1 w u L) {e : TypeId} {s n : Nat} {xs : List Value} (hr : w.ownsRow B e s v n xs) (hne : 29 ≠ e) (hg : w.grownBy w' v.ownBlock) : EvsW W1 w' u L := by
  obtain ⟨cells, h1, h2⟩ := h
  exact ⟨cells, h1.kept hg (rows_ne h1 hr hne), h2⟩
theorem EvsW.slc (h : EvsW W1 w u L) : ∃ a c, u = .slice a L.length c := by
  obtain ⟨cells, h1, -⟩ := h
  exact row_slc h1
theorem EvsW.one {e : Ev} {cs : Array Value} {g : Nat} (hB : Blk w g 29 cs) (hl : cs.size = 2) (he : EvE W1 cs.toList e) : EvsW W1 w (.slice (some ⟨g, 0, none⟩) 1 1) [e] :=
  ⟨cs.toList, ⟨by simp [hl], .inr ⟨g, 1, cs, rfl, Nat.zero_le _, hB, Nat.le_refl _, by decide, by omega, List.take_of_length_le (by simp [hl])⟩⟩, fun k h => by
    have : k = 0 := by simp at h; exact h
    subst this
    exact ⟨cs.toList, by simpa using hl, fun i _ => by simp, he⟩⟩
theorem EvsW.nil {g : Nat} (hB : Blk w g 29 #[]) : EvsW W1 w (.slice (some ⟨g, 0, none⟩) 0 0) [] :=
  ⟨[], ⟨rfl, .inr ⟨g, 0, #[], rfl, Nat.zero_le _, hB, Nat.le_refl _, by decide, rfl, rfl⟩⟩, fun k h => by simp at h⟩
def RowsW (B : Nat) (W1 w : World) (v : Value) (LL : List (List Ev)) : Prop := ∃ us : List Value, w.ownsRow B 22 1 v LL.length us ∧ ∀ k (h : k < LL.length), ∃ u, us[k]? = some u ∧ EvsW W1 w u LL[k]
theorem RowsW.on (h : RowsW B W1 w v LL) (hb : Below w.heap.size w w') : RowsW B W1 w' v LL := by
  obtain ⟨us, h1, h2⟩ := h
  refine ⟨us, below_row h1 hb, fun k hk => ?_⟩
  obtain ⟨u, a, b⟩ := h2 k hk
  exact ⟨u, a, b.on hb⟩
theorem RowsW.slc (h : RowsW B W1 w v LL) : ∃ a c, v = .slice a LL.length c := by
  obtain ⟨us, h1, -⟩ := h
  exact row_slc h1
theorem RowsW.lt (h : RowsW B W1 w v LL) {b : Nat} (hb : v.ownBlock = some b) : B ≤ b ∧ b < w.heap.size := by
  obtain ⟨us, h1, -⟩ := h
  exact h1.lt b hb
theorem RowsW.nil (w : World) (hB : B ≤ w.heap.size) : RowsW B W1 (w.alloc (.cells #[] 22)) (.slice (some ⟨w.heap.size, 0, none⟩) 0 0) [] :=
  ⟨[], World.ownsRow_made w #[] 0 hB (Nat.zero_le _) rfl, fun k h => by simp at h⟩
/-- Another row of lists grows. -/
theorem RowsW.grown {x : Value} {n : Nat} {xs : List Value} (h : RowsW B W1 w v LL) {B' : Nat} (hr : w.ownsRow B' 22 1 x n xs) (hne : ∀ b, v.ownBlock = some b → x.ownBlock ≠ some b) (hg : w.grownBy w' x.ownBlock) : RowsW B W1 w' v LL := by
  obtain ⟨us, h1, h2⟩ := h
  refine ⟨us, h1.kept hg ?_, fun k hk => ?_⟩
  · cases e : v.ownBlock with
    | none => exact .inl rfl
    | some b => exact .inr fun q => hne b e q.symm
  · obtain ⟨u, a, b⟩ := h2 k hk
    exact ⟨u, a, b.grown hr (by decide) hg⟩
theorem RowsW.cell {ga n c : Nat} (h : RowsW B W1 w (.slice (some ⟨ga, 0, none⟩) n c) LL) {k : Nat} (hk : k < LL.length) : ∃ a c', (∀ wq, Below w.heap.size w wq → wq.cell? ⟨ga, k, none⟩ = some (.slice a LL[k].length c')) ∧ EvsW W1 w (.slice a LL[k].length c') LL[k] := by
  obtain ⟨us, h1, h2⟩ := h
  obtain ⟨u, a, b⟩ := h2 k hk
  obtain ⟨a', c', rfl⟩ := b.slc
  obtain ⟨a2, c2, e⟩ := row_slc h1
  injection e with e1 e2 e3
  subst e2 e3
  obtain ⟨g, e4, -, h5⟩ := row_at h1 (by omega)
  injection e4 with e4
  injection e4 with e4
  subst e4
  exact ⟨a', c', fun wq hq => h5 wq hq k _ a, b⟩
end
set_option maxRecDepth 100000 in
/-- append of one list, an operation alone. -/
theorem wp_append_rowsw {B : Nat} {o : Oper} {a : Act} {w W1 : World} {K : Act → World → Prop} {Q : Exit → Act → World → Prop} (s x : Operand)
    (ho : o.op = .call { callee := .builtin .append, args := #[s, x], argTypes := #[38, 38] })
    (v u : Value) (LL : List (List Ev)) (y : List Ev) (g : Nat) (hs : a.eval s = v) (hown : RowsW B W1 w v LL) (hx : a.eval x = .slice (some ⟨g, 0, none⟩) 1 1) (hB : Blk w g 22 #[u]) (hu : EvsW W1 w u y) (hlen : LL.length ≤ 100000) (hbase : B ≤ w.heap.size)
    (h : ∀ v' w', RowsW B W1 w' v' (LL ++ [y]) → w.grownBy w' v.ownBlock → (v'.ownBlock = v.ownBlock ∨ v'.ownBlock = some w.heap.size) → K (a.put o.dst v') w') : o.wp Try.prog a w K Q := by
  obtain ⟨us, hrow, hus⟩ := hown
  have hone : u.oneCell' = true := by obtain ⟨a, c, rfl⟩ := hu.slc; rfl
  obtain ⟨v', w', hr, h1, h2, h3⟩ := run_append_blkL (ty := o.type) hone hrow hB hlen hbase
  have hcont : K (a.put o.dst v') w' := by
    have hul : us.length = LL.length := by have := hrow.1; omega
    refine h v' w' ⟨us ++ [u], by rw [List.length_append]; exact h1, fun k hk' => ?_⟩ h2 h3
    by_cases hlt : k < LL.length
    · obtain ⟨z, c1, c2⟩ := hus k hlt
      exact ⟨z, by rw [List.getElem?_append_left (by omega)]; exact c1, by rw [List.getElem_append_left hlt]; exact c2.grown hrow (by decide) h2⟩
    · have e : k = LL.length := by rw [List.length_append] at hk'; simp at hk'; omega
      subst e
      exact ⟨u, by rw [← hul]; simp, by rw [List.getElem_append_right (Nat.le_refl _)]; simpa using hu.grown hrow (by decide) h2⟩
  unfold Oper.wp execOp
  simp only [ho, resolve, invoke, builtin, Sem.run_bind, Sem.run_pure, Result.andThen_ok, List.map_toArray, List.map_cons, List.map_nil, hs, hx, hr]
  exact hcont
theorem append_rowsw {B : Nat} {ops : Array Oper} {rest : List Oper} {o : Oper} {a : Act} {w W1 : World} {Q : Exit → Act → World → Prop} (hgd : o.guard = none) (s x : Operand)
    (ho : o.op = .call { callee := .builtin .append, args := #[s, x], argTypes := #[38, 38] })
    (v u : Value) (LL : List (List Ev)) (y : List Ev) (g : Nat) (hs : a.eval s = v) (hown : RowsW B W1 w v LL) (hx : a.eval x = .slice (some ⟨g, 0, none⟩) 1 1) (hB : Blk w g 22 #[u]) (hu : EvsW W1 w u y) (hlen : LL.length ≤ 100000) (hbase : B ≤ w.heap.size)
    (h : ∀ v' w', RowsW B W1 w' v' (LL ++ [y]) → w.grownBy w' v.ownBlock → (v'.ownBlock = v.ownBlock ∨ v'.ownBlock = some w.heap.size) → wpList Try.prog ops Q rest (a.put o.dst v') w') : wpList Try.prog ops Q (o :: rest) a w :=
  wpList_plain hgd fun _ hK => wp_append_rowsw s x ho v u LL y g hs hown hx hB hu hlen hbase fun v' w' h2 h3 h4 => hK _ _ (h v' w' h2 h3 h4)
set_option maxRecDepth 100000 in
/-- append to a row of one event that has no room. -/
theorem wp_append_full {o : Oper} {a : Act} {w W1 : World} {K : Act → World → Prop} {Q : Exit → Act → World → Prop} (s x : Operand)
    (ho : o.op = .call { callee := .builtin .append, args := #[s, x], argTypes := #[22, 22] })
    (u : Value) (e : Ev) (ys : List Ev) (g : Nat) (cur : Array Value) (hs : a.eval s = .slice (some ⟨g, 0, none⟩) 1 1) (hB : Blk w g 29 cur) (hl : cur.size = 2) (he : EvE W1 cur.toList e) (hx : a.eval x = u) (hu : ReadsW W1 w u ys) (hlen : ys.length ≤ 100000)
    (h : ∀ v' w', EvsW W1 w' v' (e :: ys) → Below w.heap.size w w' → K (a.put o.dst v') w') : o.wp Try.prog a w K Q := by
  obtain ⟨i0, hinf, hz0, hz1, hz2⟩ := info_parts Try.infoEv
  have hE := EvsW.one hB hl he
  have hrow1 : w.ownsRow 0 29 2 (.slice (some ⟨g, 0, none⟩) 1 1) 1 cur.toList := ⟨by simp [hl], .inr ⟨g, 1, cur, rfl, Nat.zero_le _, hB, Nat.le_refl _, by decide, by omega, List.take_of_length_le (by simp [hl])⟩⟩
  have key : ∃ v' w', (Builtin.append_ #[22, 22] o.type #[.slice (some ⟨g, 0, none⟩) 1 1, u]).run Try.prog w = .ok v' w' ∧ EvsW W1 w' v' (e :: ys) ∧ Below w.heap.size w w' := by
    obtain ⟨au, n, c, rfl⟩ := Slc.of_readsK hu
    cases au with
    | none =>
      obtain ⟨ao, cap', hv, h1, h2, h3, h4⟩ := hu
      injection hv with e1 e2 e3
      have h5 := h3 e1.symm
      have h0 : ys = [] := List.length_eq_zero_iff.1 (by omega)
      subst h0
      have en : n = 0 := e2
      have ec : c = 0 := by omega
      subst en ec
      exact ⟨_, _, run_append_owned_none (P := Try.prog) (w := w) 0 22 o.type 29 i0 2 Try.underlying22 hinf _ 1 cur.toList hrow1, hE, Below.refl _ _⟩
    | some ad =>
      obtain ⟨e2, hcm, news, hnl, hcell, hone, hev⟩ := hu.news
      subst e2
      by_cases h0 : ys.length = 0
      · have hr2 := run_append_room (P := Try.prog) w 22 o.type 29 i0 Try.underlying22 hinf g 1 1 cur hB ad ys.length c news (by rw [hz1]; exact hnl) (fun j u hu => (hcell j u hu).1) hone (by omega) (by rw [hz1, hl]; omega)
        have hnn : news = [] := List.length_eq_zero_iff.1 (by omega)
        subst hnn
        have hys : ys = [] := List.length_eq_zero_iff.1 h0
        subst hys
        refine ⟨_, _, hr2, ?_, ?_⟩
        · have hB2 : Blk (w.setRow g (cur.toList.take (1 * i0.size) ++ [] ++ cur.toList.drop (1 * i0.size + ([] : List Value).length)).toArray) g 29 cur := by
            have h6 := hB.setRow (cur.toList.take (1 * i0.size) ++ [] ++ cur.toList.drop (1 * i0.size + ([] : List Value).length)).toArray
            have e5 : (cur.toList.take (1 * i0.size) ++ [] ++ cur.toList.drop (1 * i0.size + ([] : List Value).length)).toArray = cur := by simp
            rw [e5] at h6 ⊢; exact h6
          exact EvsW.one hB2 hl he
        · have e5 : (cur.toList.take (1 * i0.size) ++ [] ++ cur.toList.drop (1 * i0.size + ([] : List Value).length)).toArray = cur := by simp
          rw [e5]
          refine ⟨rfl, rfl, rfl, by simp, fun k _ => ?_⟩
          by_cases ek : k = g
          · subst ek
            have h7 : (w.setRow k cur).heap[k]? = some (.cells cur 29 (0, 0)) := hB.setRow cur
            have h8 : w.heap[k]? = some (.cells cur 29 (0, 0)) := hB
            rw [h7, h8]
          · exact setRow_other w g k cur ek
      · have hr2 := run_append_grow (P := Try.prog) w 22 o.type 29 i0 _ Try.underlying22 hinf hz0 ⟨g, 0, none⟩ 1 1 cur.toList (by rw [hz1]; simp [hl]) (hrow1.cells (g := g) rfl) ad ys.length c news (by rw [hz1]; exact hnl) (fun j u hu => (hcell j u hu).1) (by omega) (by omega) (growslice_fits (by omega) (by rw [hz2]; omega))
        obtain ⟨v', w', hr, h2, h3, h4⟩ := run_append_own (P := Try.prog) w 0 22 o.type 29 i0 _ 2 32 Try.underlying22 hinf hz0 hz1 hz2 rfl (by decide) _ 1 cur.toList hrow1 ad ys.length c news hnl (fun j u hu => (hcell j u hu).1) hone (by unfold maxLen; omega) (by omega) (Nat.zero_le _)
        refine ⟨v', w', hr, ?_, ?_⟩
        · refine ⟨cur.toList ++ news, by rw [List.length_cons, Nat.add_comm]; exact h2, fun k hk => ?_⟩
          have hcl : cur.toList.length = 2 := by simp [hl]
          cases k with
          | zero => exact ⟨cur.toList, hcl, fun i hi => by rw [List.getElem?_append_left (by omega)]; simp, he⟩
          | succ k =>
            obtain ⟨ds, h5, h6, h7⟩ := hev k (by simpa using hk)
            refine ⟨ds, h5, fun i hi => ?_, by simpa using h7⟩
            rw [List.getElem?_append_right (by omega), hcl, ← h6 i hi]
            congr 1
            omega
        · rw [hr2] at hr
          injection hr with _ hr
          rw [← hr]
          exact ((Below.refl w.heap.size w).drew).alloc (Nat.le_refl _) _
  obtain ⟨v', w', hr, h1, h2⟩ := key
  unfold Oper.wp execOp
  simp only [ho, resolve, invoke, builtin, Sem.run_bind, Sem.run_pure, Result.andThen_ok, List.map_toArray, List.map_cons, List.map_nil, hs, hx, hr]
  exact h v' w' h1 h2
end Go.Proofs.Ytfdicndmebhmdaa
