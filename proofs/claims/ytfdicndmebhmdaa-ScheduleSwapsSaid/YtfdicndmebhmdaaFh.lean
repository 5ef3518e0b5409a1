/-
  Chapter 29: All.
-/
import Derived.Test.YtfdicndmebhmdaaFg
namespace Go.Proofs.Ytfdicndmebhmdaa
open Go.RowKit

/-- A list of events of the call's own, all of whose blocks are in F. -/
def EvsF (F : Nat → Prop) (w : World) (u : Value) (L : List Ev) : Prop := ∃ cells : List Value, w.ownsRow 0 29 2 u L.length cells ∧ (∀ b, u.ownBlock = some b → F b) ∧
  ∀ k (h : k < L.length), ∃ vu, (∀ i, i < 2 → cells[k * 2 + i]? = (evCs L[k] vu)[i]?) ∧ w.ownsRow 0 3 1 vu L[k].2.length (L[k].2.map vi) ∧ ∀ b, vu.ownBlock = some b → F b
theorem EvsF.kept {F S : Nat → Prop} {w w' : World} {u : Value} {L : List Ev} (h : EvsF F w u L) (hk : Kept S w w') (hs : ∀ b, S b → ¬ F b) : EvsF F w' u L := by
  obtain ⟨cells, h1, h2, h3⟩ := h
  refine ⟨cells, hk.row h1 fun b hb q => hs b q (h2 b hb), h2, fun k hk' => ?_⟩
  obtain ⟨vu, a, b, c⟩ := h3 k hk'
  exact ⟨vu, a, hk.row b fun b hb q => hs b q (c b hb), c⟩
theorem EvsF.mono {F F' : Nat → Prop} {w : World} {u : Value} {L : List Ev} (h : EvsF F w u L) (hf : ∀ b, F b → F' b) : EvsF F' w u L := by
  obtain ⟨cells, h1, h2, h3⟩ := h
  refine ⟨cells, h1, fun b hb => hf b (h2 b hb), fun k hk' => ?_⟩
  obtain ⟨vu, a, b, c⟩ := h3 k hk'
  exact ⟨vu, a, b, fun x hx => hf x (c x hx)⟩
theorem EvsF.of_own {B : Nat} {w0 w : World} {u : Value} {L : List Ev} (h : OwnE B (EvR B) w0 w u L) : EvsF (fun b => B ≤ b ∧ b < w.heap.size) w u L := by
  obtain ⟨_, cells, h1, h2⟩ := h
  refine ⟨cells, ownsRow_base h1 (Nat.zero_le _), fun b hb => h1.lt b hb, fun k hk => ?_⟩
  obtain ⟨cs, a, b, vu, c, d⟩ := h2 k hk
  exact ⟨vu, by rw [← c]; exact b, ownsRow_base d (Nat.zero_le _), fun b hb => d.lt b hb⟩
theorem EvsF.reads {F : Nat → Prop} {w : World} {u : Value} {L : List Ev} (h : EvsF F w u L) : ReadsE w u L := by
  obtain ⟨cells, h1, h2, h3⟩ := h
  rcases h1.2 with ⟨rfl, h0⟩ | ⟨g, cap, cur, rfl, hbg, hg, hn, hm, hs, ht⟩
  · have : L = [] := List.length_eq_zero_iff.1 h0
    subst this
    exact ReadsK.nil w
  · refine ⟨_, cap, rfl, hn, hm, (fun e => by cases e), fun _ => ⟨g, 0, rfl, (Array.getElem?_eq_some_iff.1 hg).1, fun j hj => ?_⟩⟩
    obtain ⟨vu, a, b, _⟩ := h3 j hj
    refine ⟨evCs L[j] vu, rfl, fun i x hx => ?_, vu, rfl, Reads.of_owns b⟩
    have hi : i < 2 := by have := (List.getElem?_eq_some_iff.1 hx).1; simpa [evCs] using this
    rw [cell_of_row w g _ cur _ (0, 0) hg, Nat.zero_add]
    have h4 := a i hi
    rw [hx, ← ht, List.getElem?_take, if_pos (by omega), Array.getElem?_toList] at h4
    exact h4
/-- Lists of events of the call's own. -/
def RowsF (F : Nat → Prop) (B : Nat) (w : World) (v : Value) (LL : List (List Ev)) : Prop := ∃ us : List Value, w.ownsRow B 22 1 v LL.length us ∧ ∀ k (h : k < LL.length), ∃ u, us[k]? = some u ∧ EvsF F w u LL[k]
theorem RowsF.kept {F S : Nat → Prop} {B : Nat} {w w' : World} {v : Value} {LL : List (List Ev)} (h : RowsF F B w v LL) (hk : Kept S w w') (hs : ∀ b, S b → ¬ F b) (hv : ∀ b, v.ownBlock = some b → F b) : RowsF F B w' v LL := by
  obtain ⟨us, h1, h2⟩ := h
  refine ⟨us, hk.row h1 fun b hb q => hs b q (hv b hb), fun k hk' => ?_⟩
  obtain ⟨u, a, b⟩ := h2 k hk'
  exact ⟨u, a, b.kept hk hs⟩
/-- All's visitor: the lists so far. -/
structure AllV (pa po pl lim B : Nat) (tv : Value) (t : List Ev) (seen : List (List Nat)) (F : Nat → Prop) (w : World) : Prop where
  bt : Blk w pa 22 #[tv]
  bl : Blk w pl 3 #[.int .i64 (lim : Int)]
  bo : ∃ v, Blk w po 38 #[v] ∧ RowsF F B w v (seen.map fun o => o.map (nthE t)) ∧ ∀ b, v.ownBlock = some b → F b
  fp : F po
  fb : ∀ b, F b → (b = po ∨ B ≤ b) ∧ b < w.heap.size
  lo : pa < po ∧ pl < po ∧ po < B ∧ B ≤ w.heap.size
theorem AllV.keep {pa po pl lim B : Nat} {tv : Value} {t : List Ev} {seen : List (List Nat)} {F S : Nat → Prop} {w w' : World} (h : AllV pa po pl lim B tv t seen F w) (hk : Kept S w w') (hs : ∀ b, S b → B ≤ b ∧ ¬ F b) : AllV pa po pl lim B tv t seen F w' := by
  obtain ⟨v, h1, h2, h3⟩ := h.bo
  have hl := h.lo
  exact ⟨hk.blk h.bt fun q => by have := (hs _ q).1; omega, hk.blk h.bl fun q => by have := (hs _ q).1; omega, ⟨v, hk.blk h1 fun q => (hs _ q).2 h.fp, h2.kept hk (fun b hb => (hs b hb).2) h3, h3⟩, h.fp,
    fun b hb => ⟨(h.fb b hb).1, Nat.lt_of_lt_of_le (h.fb b hb).2 hk.size⟩, hl.1, hl.2.1, hl.2.2.1, Nat.le_trans hl.2.2.2 hk.size⟩
theorem Try.infoEvs : (Try.prog.info? 22).map (fun i => (i.zero, i.size, i.bytes)) = some (some (.slice none 0 0), 1, 24) := by kernel_rfl
/-- One list appended to a row of lists: the row's block is the one it was, or the next new one. -/
theorem run_append_blkL {base : Nat} {w : World} {ty : TypeId} {v x : Value} {n : Nat} {xs : List Value} {g : Nat} (hone : x.oneCell' = true) (hown : w.ownsRow base 22 1 v n xs) (hB : Blk w g 22 #[x]) (hlen : n ≤ 100000) (hbase : base ≤ w.heap.size) :
    ∃ v' w', (Builtin.append_ #[38, 38] ty #[v, .slice (some ⟨g, 0, none⟩) 1 1]).run Try.prog w = .ok v' w' ∧ w'.ownsRow base 22 1 v' (n + 1) (xs ++ [x]) ∧ w.grownBy w' v.ownBlock ∧ (v'.ownBlock = v.ownBlock ∨ v'.ownBlock = some w.heap.size) := by
  obtain ⟨i0, hinf, hz0, hz1, hz2⟩ := info_parts Try.infoEvs
  have hn1 : ∀ j u, [x][j]? = some u → w.cell? ((⟨g, 0, none⟩ : Addr).add j) = some u := by
    intro j u hu
    have h2 : (#[x] : Array Value)[j]? = some u := by simpa using hu
    rw [← h2, ← hB.cell j]
    by_cases h0 : j = 0 <;> simp [Addr.add, h0]
  have h1 : ∀ u ∈ [x], u.oneCell' = true := by intro u hu; rw [List.mem_singleton.1 hu]; exact hone
  have hxl : xs.length = n := by have := hown.1; omega
  obtain ⟨v', w', hr, h2, h3, _⟩ := run_append_own (P := Try.prog) w base 38 ty 22 i0 (.slice none 0 0) 1 24 Try.underlying38 hinf hz0 hz1 hz2 rfl (by decide) v n xs hown ⟨g, 0, none⟩ 1 1 [x] rfl hn1 h1 (by unfold maxLen; omega) (by omega) hbase
  refine ⟨v', w', hr, h2, h3, ?_⟩
  have hown2 := hown
  rcases hown.2 with ⟨rfl, h0⟩ | ⟨g0, cap, cur, rfl, hbg, hg, hnc, hcm, hcs, htake⟩
  · have hr2 := run_append_nil (P := Try.prog) w 38 ty 22 i0 (.slice none 0 0) Try.underlying38 hinf hz0 ⟨g, 0, none⟩ 1 1 [x] (by rw [hz1]; rfl) hn1 (by omega) (by omega) (by omega)
    rw [hr2] at hr
    injection hr with hr _
    right; rw [← hr]; rfl
  · by_cases hroom : n + 1 ≤ cap
    · have hr2 := run_append_room (P := Try.prog) w 38 ty 22 i0 Try.underlying38 hinf g0 n cap cur hg ⟨g, 0, none⟩ 1 1 [x] (by rw [hz1]; rfl) hn1 h1 hroom (by rw [hz1, hcs]; simp; omega)
      rw [hr2] at hr
      injection hr with hr _
      left; rw [← hr]; rfl
    · have hr2 := run_append_grow (P := Try.prog) w 38 ty 22 i0 (.slice none 0 0) Try.underlying38 hinf hz0 ⟨g0, 0, none⟩ n cap xs (by rw [hz1]; omega) (hown2.cells (g := g0) rfl) ⟨g, 0, none⟩ 1 1 [x] (by rw [hz1]; rfl) hn1 (by omega) (by unfold maxLen at hcm; omega) (growslice_fits (by omega) (by rw [hz2]; omega))
      rw [hr2] at hr
      injection hr with hr _
      right; rw [← hr]; rfl
set_option maxRecDepth 100000 in
/-- append of one list of events. -/
theorem append_rows {B : Nat} {F : Nat → Prop} {ops : Array Oper} {rest : List Oper} {o : Oper} {a : Act} {w : World} {Q : Exit → Act → World → Prop} (hgd : o.guard = none) (s x : Operand)
    (ho : o.op = .call { callee := .builtin .append, args := #[s, x], argTypes := #[38, 38] })
    (v u : Value) (LL : List (List Ev)) (y : List Ev) (g : Nat) (hs : a.eval s = v) (hown : RowsF F B w v LL) (hx : a.eval x = .slice (some ⟨g, 0, none⟩) 1 1) (hB : Blk w g 22 #[u]) (hu : EvsF F w u y) (hlen : LL.length ≤ 100000) (hbase : B ≤ w.heap.size)
    (h : ∀ v' w', RowsF F B w' v' (LL ++ [y]) → w.grownBy w' v.ownBlock → (v'.ownBlock = v.ownBlock ∨ v'.ownBlock = some w.heap.size) → (∀ b, v'.ownBlock = some b → b < w'.heap.size ∧ B ≤ b) → wpList Try.prog ops Q rest (a.put o.dst v') w') : wpList Try.prog ops Q (o :: rest) a w := by
  obtain ⟨us, hrow, hus⟩ := hown
  have hone : u.oneCell' = true := by obtain ⟨_, h1, _⟩ := hu; obtain ⟨a, c, rfl⟩ := row_slc h1; rfl
  obtain ⟨v', w', hr, h1, h2, h3⟩ := run_append_blkL (ty := o.type) hone hrow hB hlen hbase
  have hcont : wpList Try.prog ops Q rest (a.put o.dst v') w' := by
    have hul : us.length = LL.length := by have := hrow.1; omega
    have hkE : ∀ {z : Value} {L : List Ev}, EvsF F w z L → EvsF F w' z L := fun {z L} hz => by
      obtain ⟨cells, a1, a2, a3⟩ := hz
      refine ⟨cells, a1.kept h2 ?_, a2, fun k hk' => ?_⟩
      · exact rows_ne a1 hrow (by decide)
      · obtain ⟨vu, b1, b2, b3⟩ := a3 k hk'
        exact ⟨vu, b1, b2.kept h2 (rows_ne b2 hrow (by decide)), b3⟩
    refine h v' w' ⟨us ++ [u], by rw [List.length_append]; exact h1, fun k hk' => ?_⟩ h2 h3 fun b hb => by have := h1.lt b hb; omega
    by_cases hlt : k < LL.length
    · obtain ⟨z, c1, c2⟩ := hus k hlt
      exact ⟨z, by rw [List.getElem?_append_left (by omega)]; exact c1, by rw [List.getElem_append_left hlt]; exact hkE c2⟩
    · have e : k = LL.length := by rw [List.length_append] at hk'; simp at hk'; omega
      subst e
      exact ⟨u, by rw [← hul]; simp, by rw [List.getElem_append_right (Nat.le_refl _)]; simpa using hkE hu⟩
  refine wpList_plain hgd fun _ hK => ?_
  unfold Oper.wp execOp
  simp only [ho, resolve, invoke, builtin, Sem.run_bind, Sem.run_pure, Result.andThen_ok, List.map_toArray, List.map_cons, List.map_nil, hs, hx, hr]
  exact hK _ _ hcont
theorem make_evs (n : Nat) (hn : n ≤ 1000000) (w1 : World) : ∃ cur : Array Value, cur.size = n * 2 ∧ (Instr.makeSlice 22 (.int .i64 0) (.int .i64 (n : Int))).run Try.prog w1 = .ok (.slice (some ⟨w1.heap.size, 0, none⟩) 0 n) (w1.alloc (.cells cur 29)) := by
  obtain ⟨i0, hinf, hz0, hz1, hz2⟩ := info_parts Try.infoEv
  have h0 := run_make (P := Try.prog) w1 22 29 i0 _ Try.underlying22 hinf hz0 .i64 .i64 0 (n : Int) (by omega) (by omega) (by rw [hz2]; omega) (by omega)
  have e : ((n : Nat) : Int).toNat = n := by omega
  rw [e, hz1] at h0
  exact ⟨_, by simp [madeCells], h0⟩
end Go.Proofs.Ytfdicndmebhmdaa
