/-
  Chapter 55: slices.Insert of one set into a list of sets of the call's own.
-/
import Derived.Test.YtjijlhjggpibjaaGreatAp2
import Derived.Shelf.Spec.SlicesInsertGrow
namespace Go.Proofs.YtjijlhjggpibjaaGreat
open Go.RowKit Go.Lib Go.Shelf

theorem Tryz.infoSet : (Tryz.prog.info? 33).map (fun i => (i.zero, i.size, i.bytes)) = some (some (.slice none 0 0), 1, 24) := by kernel_rfl
theorem Tryz.sizeSet : (Tryz.prog.info? 33).map (·.size) = some 1 := by kernel_rfl

set_option maxHeartbeats 8000000 in
set_option maxRecDepth 100000 in
/-- There is room, not at the end: in place. -/
theorem ins_shift (b n c i vb : Nat) (cs : List Value) (x : Value) (w : World) (hi : i < n) (hroom : n + 1 ≤ c) (hc63 : c ≤ 9223372036854775807) (hvb : vb ≠ b) (hcl : cs.length = n)
    (hcs : ∀ j v, cs[j]? = some v → w.cell? ⟨b, j, none⟩ = some v) (hsp : ∀ j, j < n + 1 → (w.cell? ⟨b, j, none⟩).isSome = true) (hfz : ∀ j, j < n + 1 → w.frozen? ⟨b, j, none⟩ = false)
    (hx : w.cell? ⟨vb, 0, none⟩ = some x) (h1c : ∀ v ∈ cs, v.oneCell' = true) (h1x : x.oneCell' = true)
    (tA tB : TypeId) (kA kB : Nat) (hsa : w.shape? vb = some (tA, kA)) (hsb : w.shape? b = some (tB, kB)) (hkB : kB ≠ 0) (hfa : w.frozen? ⟨vb, 0, none⟩ = false) (hfe : w.frozen? ⟨vb, kA, none⟩ = false) :
    Calls Tryz.prog 30 #[.slice (some ⟨b, 0, none⟩) n c, .int .i64 (i : Int), .slice (some ⟨vb, 0, none⟩) 1 1] w fun e w' =>
      e = .returned (.slice (some ⟨b, 0, none⟩) (n + 1) c) ∧ w' = (w.drew.setCells b (i + 1) (cs.drop i)).setCells b i [x] := by
  have hT := Tryz.underlying28
  have mixed : Tryz.prog.follows .mixedOrders = true := by kernel_rfl
  have hsz1 : ∀ w, (Go.sizeOf 33).run Tryz.prog w = .ok 1 w := fun w => by
    obtain ⟨i0, hinf, hz0, hz1, hz2⟩ := info_parts Tryz.infoSet
    simp [Go.sizeOf, typeInfo, hinf, hz1]
  have hz2 : ¬ ((i : Int) = (n : Int)) := by omega
  have hov : ∀ lb cb, (callFunc 57 #[.slice (some ⟨vb, 0, none⟩) 1 1, .slice (some ⟨b, i + 1, none⟩) lb cb]).run Tryz.prog w = .ok (.value (.bool false)) w := fun lb cb => by
    rw [run_callFunc_extern Tryz.func57 (by kernel_rfl) (by kernel_rfl) (by kernel_rfl) (e := Extern.SlicesOverlaps.overlaps #[28, 28] #[4]) (by kernel_rfl),
      Lib.run_overlaps_apart w 28 4 33 hT 1 hsz1 ⟨vb, 0, none⟩ ⟨b, i + 1, none⟩ 1 1 lb cb hvb tA tB kA kB hsa hsb hkB hfa hfe]
    rfl
  have hdl : (cs.drop i).length = n - i := by rw [List.length_drop, hcl]
  have hw1 : IntKind.i64.wrap ((i : Int) + 1) = (i : Int) + 1 := by rw [IntKind.wrap_i64]; omega
  have hin : i ≤ n := by omega
  have hb2 : ¬ (c = i + 1) := by omega
  have hb3 : (i : Int) ≤ (n : Int) + 1 := by omega
  have hb4 : ¬ (c = i) := by omega
  have hb1 : (0 : Int) ≤ (i : Int) + 1 := by omega
  have htn : ((i : Int) + 1).toNat = i + 1 := by omega
  have hcp1 : ∀ ty dc sc, (Builtin.copy_ #[28, 28] ty #[.slice (some ⟨b, i + 1, none⟩) (n - i) dc, .slice (some ⟨b, i, none⟩) (n + 1 - i) sc]).run Tryz.prog w.drew = .ok (goInt (cs.drop i).length) (w.drew.setCells b (i + 1) (cs.drop i)) := fun ty dc sc =>
    run_copy_cells w.drew _ _ ty 33 b (i + 1) (n - i) dc ⟨b, i, none⟩ (n + 1 - i) sc (cs.drop i) hT Tryz.sizeSet (by rw [hdl]; simp only [Nat.min_def]; split <;> omega)
      (fun j v hj => by rw [Addr.add_lit]; exact hcs (i + j) v (by rwa [List.getElem?_drop] at hj))
      (fun j hj => hsp (i + 1 + j) (by rw [hdl] at hj; omega)) (fun j hj => hfz (i + 1 + j) (by rw [hdl] at hj; omega)) (fun v hv => h1c v (List.mem_of_mem_drop hv))
  obtain ⟨W1, hW1⟩ : ∃ W1, W1 = w.drew.setCells b (i + 1) (cs.drop i) := ⟨_, rfl⟩
  have hsp1 : ∀ k, k < n + 1 → (W1.cell? ⟨b, k, none⟩).isSome = true := fun k hk => by
    rw [hW1]
    exact isSome_setCells b (cs.drop i) (i + 1) w.drew (fun j hj => hsp (i + 1 + j) (by rw [hdl] at hj; omega)) _ (hsp k hk)
  have hcp2 : ∀ (W : World), (∀ x, W.cell? x = W1.cell? x) → (∀ x, W.frozen? x = W1.frozen? x) → ∀ ty dc, (Builtin.copy_ #[28, 28] ty #[.slice (some ⟨b, i, none⟩) (n + 1 - i) dc, .slice (some ⟨vb, 0, none⟩) 1 1]).run Tryz.prog W = .ok (goInt [x].length) (W.setCells b i [x]) := fun W hWc hWf ty dc =>
    run_copy_cells W _ _ ty 33 b i (n + 1 - i) dc ⟨vb, 0, none⟩ 1 1 [x] hT Tryz.sizeSet (by rw [List.length_singleton]; simp only [Nat.min_def]; split <;> omega)
      (fun j v hj => by
        have h0 : j = 0 := by have := (List.getElem?_eq_some_iff.1 hj).1; simpa using this
        subst h0
        rw [Addr.add_lit, hWc, hW1, World.cell?_setCells_out b _ _ _ _ (fun h _ => absurd h hvb)]
        have h9 : x = v := by simpa using hj
        subst h9
        exact hx)
      (fun j hj => by rw [hWc]; exact hsp1 (i + j) (by simp at hj; omega)) (fun j hj => by rw [hWf, hW1, World.frozen?_setCells]; exact hfz (i + j) (by simp at hj; omega)) (by simpa using h1x)
  rw [← hW1] at hcp1
  go_enter Tryz.func30, Tryz.ntmps30
  go_wp2_with (simp only [hov])
  go_region_law_o (refine step_copy_runI rfl _ _ 28 28 rfl _ _ (by simp [Act.eval, Act.put]) (by simp [Act.eval, Act.put]) (hcp1 _ _ _) ?_)
  go_wp2_with (at_builtin; refine wpList_copy_runI _ rfl _ _ 28 28 rfl _ _ rfl rfl (hcp2 _ (fun _ => rfl) (fun _ => rfl) _ _) ?_)
  go_ret
  first | exact ⟨rfl, rfl⟩ | exact ⟨rfl, by rw [hW1]⟩
set_option maxHeartbeats 8000000 in
set_option maxRecDepth 100000 in
/-- There is no room, not at the end: a new row. -/
theorem ins_grow (b n c i vb : Nat) (cs : List Value) (x : Value) (w : World) (hi : i < n) (hnc : n ≤ c) (hroom : c < n + 1) (hbig : (n + 1) * 24 ≤ 140737488355328) (hcl : cs.length = n)
    (hcs : ∀ j v, cs[j]? = some v → w.cell? ⟨b, j, none⟩ = some v) (hx : w.cell? ⟨vb, 0, none⟩ = some x) (h1c : ∀ v ∈ cs, v.oneCell' = true) (h1x : x.oneCell' = true) :
    Calls Tryz.prog 30 #[.slice (some ⟨b, 0, none⟩) n c, .int .i64 (i : Int), .slice (some ⟨vb, 0, none⟩) 1 1] w fun e w' =>
      e = .returned (.slice (some ⟨w.heap.size, 0, none⟩) (n + 1) (grownCap w (n + 1) c 33)) ∧
      w' = (((w.alloc (.cells ((cs.take i).toArray ++ Builtin.zeroCells (Value.slice none 0 0).cells (n + 1 - i) ++ Builtin.zeroCells (Value.slice none 0 0).cells (grownCap w (n + 1) c 33 - (n + 1))) 33)).drew.setCells w.heap.size i [x]).drew).setCells w.heap.size (i + 1) (cs.drop i) := by
  have hT := Tryz.underlying28
  have hTi := Tryz.underlying3
  have mixed : Tryz.prog.follows .mixedOrders = true := by kernel_rfl
  obtain ⟨i0, hi0, hz0, hzs, hzb⟩ := info_parts Tryz.infoSet
  have hz2 : ¬ ((i : Int) = (n : Int)) := by omega
  have hz3 : (c : Int) < (n : Int) + 1 := by omega
  have hbw : b < w.heap.size := block_lt_of_cell (hcs 0 _ (List.getElem?_eq_getElem (by omega)))
  have hvw : vb < w.heap.size := block_lt_of_cell hx
  have hkk : (n : Int) + 1 - (i : Int) = ((n + 1 - i : Nat) : Int) := by omega
  have hik : i + (n + 1 - i) = n + 1 := by omega
  have hold : (Builtin.firstCells i0.size i (.slice (some ⟨b, 0, none⟩) i c)).run Tryz.prog w.drew = .ok (cs.take i).toArray w.drew := by
    rw [hzs]
    exact run_firstCells_some w.drew 1 i ⟨b, 0, none⟩ i c (cs.take i) (by rw [List.length_take]; omega) (fun j v hj => by
      rw [Addr.add_lit, Nat.zero_add]
      rw [List.getElem?_take] at hj
      split at hj
      · exact hcs j v hj
      · cases hj)
  have hrz : ∀ ty, (Builtin.append_ #[28, 3] ty #[.slice (some ⟨b, 0, none⟩) i c, .int .i64 ((n : Int) + 1 - (i : Int))]).run Tryz.prog w =
      .ok (.slice (some ⟨w.heap.size, 0, none⟩) (n + 1) (grownCap w (n + 1) c 33)) (w.drew.alloc (.cells ((cs.take i).toArray ++ Builtin.zeroCells (Value.slice none 0 0).cells (n + 1 - i) ++ Builtin.zeroCells (Value.slice none 0 0).cells (grownCap w (n + 1) c 33 - (n + 1))) 33)) := fun ty => by
    have h := Lib.run_append_grow_zeros w 28 3 ty 33 i0 _ .i64 .i64 hT hTi hi0 hz0 (some ⟨b, 0, none⟩) i c (cs.take i) hold (n + 1 - i) (by omega) (by omega) (by omega) (by omega) (by rw [hzb]; omega) (by rw [hzb, hik]; exact growslice_fits hroom hbig)
    rw [hik] at h
    rw [hkk]
    exact h
  obtain ⟨G, hG⟩ : ∃ G, G = grownCap w (n + 1) c 33 := ⟨_, rfl⟩
  obtain ⟨ROW, hROW⟩ : ∃ ROW : Array Value, ROW = (cs.take i).toArray ++ Builtin.zeroCells (Value.slice none 0 0).cells (n + 1 - i) ++ Builtin.zeroCells (Value.slice none 0 0).cells (G - (n + 1)) := ⟨_, rfl⟩
  rw [← hG] at hrz ⊢
  rw [← hROW] at hrz ⊢
  have hRl : n + 1 ≤ ROW.size := by
    rw [hROW]
    simp [Builtin.zeroCells, Value.cells]
    omega
  obtain ⟨W1, hW1⟩ : ∃ W1, W1 = w.drew.alloc (.cells ROW 33) := ⟨_, rfl⟩
  rw [← hW1] at hrz
  have hN : ∀ j, j < n + 1 → (W1.cell? ⟨w.heap.size, j, none⟩).isSome = true := fun j hj => by
    rw [hW1, World.cell?_alloc_at (w := w.drew) ROW _ w.heap.size j rfl, Array.getElem?_eq_getElem (by omega)]; rfl
  have hNf : ∀ j, W1.frozen? ⟨w.heap.size, j, none⟩ = false := fun j => by rw [hW1]; exact World.frozen?_alloc_at (w := w.drew) ROW _ w.heap.size j rfl
  have hOb : ∀ j v, w.cell? ⟨b, j, none⟩ = some v → W1.cell? ⟨b, j, none⟩ = some v := fun j v h => by rw [hW1, World.cell?_alloc_past (w := w.drew) _ b j hbw]; exact h
  have hOv : ∀ j v, w.cell? ⟨vb, j, none⟩ = some v → W1.cell? ⟨vb, j, none⟩ = some v := fun j v h => by rw [hW1, World.cell?_alloc_past (w := w.drew) _ vb j hvw]; exact h
  have hcpA : ∀ (W : World), (∀ x, W.cell? x = W1.cell? x) → (∀ x, W.frozen? x = W1.frozen? x) → ∀ ty dc, (Builtin.copy_ #[28, 28] ty #[.slice (some ⟨w.heap.size, i, none⟩) (n + 1 - i) dc, .slice (some ⟨vb, 0, none⟩) 1 1]).run Tryz.prog W = .ok (goInt [x].length) (W.setCells w.heap.size i [x]) := fun W hWc hWf ty dc =>
    run_copy_cells W _ _ ty 33 w.heap.size i (n + 1 - i) dc ⟨vb, 0, none⟩ 1 1 [x] hT Tryz.sizeSet (by rw [List.length_singleton]; simp only [Nat.min_def]; split <;> omega)
      (fun j v hj => by
        have h0 : j = 0 := by have := (List.getElem?_eq_some_iff.1 hj).1; simpa using this
        subst h0
        rw [Addr.add_lit, hWc]
        have h9 : x = v := by simpa using hj
        subst h9
        exact hOv _ _ hx)
      (fun j hj => by rw [hWc]; exact hN (i + j) (by simp at hj; omega)) (fun j hj => by rw [hWf]; exact hNf _) (by simpa using h1x)
  have hGn : n + 1 ≤ G := by rw [hG]; exact grownCap_ge w _ _ _
  have hG63 : G ≤ 9223372036854775807 := by
    have := grownCap_le_maxLen w (n + 1) c 33 (by unfold maxLen; omega)
    rw [← hG] at this
    unfold maxLen at this
    omega
  have hGi : ¬ (G = i) := by omega
  have hGim : ¬ (G = i + 1) := by omega
  have hci : ¬ (c = i) := by omega
  have hbN : b ≠ w.heap.size := by omega
  have hdl : (cs.drop i).length = n - i := by rw [List.length_drop, hcl]
  have hcpB : ∀ (W : World), (∀ y, W.cell? y = (W1.setCells w.heap.size i [x]).cell? y) → (∀ y, W.frozen? y = (W1.setCells w.heap.size i [x]).frozen? y) → ∀ ty dc sc, (Builtin.copy_ #[28, 28] ty #[.slice (some ⟨w.heap.size, i + 1, none⟩) (n - i) dc, .slice (some ⟨b, i, none⟩) (n - i) sc]).run Tryz.prog W = .ok (goInt (cs.drop i).length) (W.setCells w.heap.size (i + 1) (cs.drop i)) := fun W hWc hWf ty dc sc =>
    run_copy_cells W _ _ ty 33 w.heap.size (i + 1) (n - i) dc ⟨b, i, none⟩ (n - i) sc (cs.drop i) hT Tryz.sizeSet (by rw [hdl]; simp only [Nat.min_def]; split <;> omega)
      (fun j v hj => by
        rw [Addr.add_lit, hWc, World.cell?_setCells_out _ _ _ _ _ (fun h _ => absurd h hbN)]
        exact hOb _ v (hcs (i + j) v (by rwa [List.getElem?_drop] at hj)))
      (fun j hj => by rw [hWc]; exact isSome_setCells _ _ _ _ (fun t ht => hN (i + t) (by simp at ht; omega)) _ (hN (i + 1 + j) (by rw [hdl] at hj; omega)))
      (fun j hj => by rw [hWf, World.frozen?_setCells]; exact hNf _) (fun v hv => h1c v (List.mem_of_mem_drop hv))
  subst hW1
  have hE1 : ∀ x, ((w.alloc (.cells ROW 33)).drew).cell? x = (w.drew.alloc (.cells ROW 33)).cell? x := fun x => rfl
  have hE2 : ∀ x, ((w.alloc (.cells ROW 33)).drew).frozen? x = (w.drew.alloc (.cells ROW 33)).frozen? x := fun x => rfl
  have hF1 : ∀ y, (((w.alloc (.cells ROW 33)).drew.setCells w.heap.size i [x]).drew).cell? y = ((w.drew.alloc (.cells ROW 33)).setCells w.heap.size i [x]).cell? y := fun x => rfl
  have hF2 : ∀ y, (((w.alloc (.cells ROW 33)).drew.setCells w.heap.size i [x]).drew).frozen? y = ((w.drew.alloc (.cells ROW 33)).setCells w.heap.size i [x]).frozen? y := fun x => rfl
  have hw1 : IntKind.i64.wrap ((i : Int) + 1) = (i : Int) + 1 := by rw [IntKind.wrap_i64]; omega
  have hb1 : (0 : Int) ≤ (i : Int) + 1 := by omega
  have hin : i ≤ n := by omega
  have htn : ((i : Int) + 1).toNat = i + 1 := by omega
  have hb3 : (i : Int) ≤ (n : Int) := by omega
  clear hkk hik hold hROW hG hRl
  go_enter Tryz.func30, Tryz.ntmps30
  go_wp2_with (first
    | (at_builtin; refine Lib.wpList_append_run _ rfl _ _ _ _ rfl _ _ rfl rfl _ _ (hrz _) ?_)
    | (at_builtin; refine wpList_copy_runI _ rfl _ _ 28 28 rfl _ _ rfl rfl (hcpA _ hE1 hE2 _ _) ?_)
    | (at_builtin; refine wpList_copy_runI _ rfl _ _ 28 28 rfl _ _ rfl rfl (hcpB _ (fun _ => rfl) (fun _ => rfl) _ _ _) ?_))
  go_region_law_o (refine step_copy_runI rfl _ _ 28 28 rfl (.slice (some ⟨w.heap.size, i + 1, none⟩) (n - i) (G - (i + 1))) (.slice (some ⟨b, i, none⟩) (n - i) (c - i)) (by simp [Act.eval, Act.put]) (by simp [Act.eval, Act.put]) (hcpB _ hF1 hF2 3 (G - (i + 1)) (c - i)) ?_)
  go_wp2
  go_ret
  exact ⟨rfl, rfl⟩
theorem blk_setCells {g : Nat} {t : TypeId} : ∀ (vs : List Value) (o : Nat) (w : World) (cur : Array Value), Blk w g t cur → ∃ cur', cur'.size = cur.size ∧ Blk (w.setCells g o vs) g t cur'
  | [], _, _, cur, h => ⟨cur, rfl, h⟩
  | v :: r, o, w, cur, h => by
    rw [World.setCells]
    obtain ⟨c, h1, h2⟩ := blk_setCells r (o + 1) _ _ (h.set_ o v)
    exact ⟨c, by rw [h1]; simp, h2⟩
theorem heap_setCells {g k : Nat} (hk : k ≠ g) : ∀ (vs : List Value) (o : Nat) (w : World), (w.setCells g o vs).heap[k]? = w.heap[k]?
  | [], _, _ => rfl
  | v :: r, o, w => by
    rw [World.setCells, heap_setCells hk r]
    exact Below.heap_setCell w ⟨g, o, none⟩ v k hk
theorem size_setCellsI (g : Nat) : ∀ (vs : List Value) (o : Nat) (w : World), (w.setCells g o vs).heap.size = w.heap.size
  | [], _, _ => rfl
  | v :: r, o, w => by
    rw [World.setCells, size_setCellsI g r]
    simp [World.setCell]
theorem below_setCellsI {B : Nat} {W : World} {g : Nat} (hg : B ≤ g) : ∀ (vs : List Value) (o : Nat) (w : World), Below B W w → Below B W (w.setCells g o vs)
  | [], _, _, h => h
  | v :: r, o, w, h => by
    rw [World.setCells]
    exact below_setCellsI hg r (o + 1) _ (h.setCell (p := ⟨g, o, none⟩) hg v)
/-- Two stores into one block make a list with an element more. -/
theorem row_two {w' : World} {base g n c i : Nat} {t : TypeId} {cur : Array Value} {cs : List Value} {x : Value} (hw' : ∃ W1 : World, Blk W1 g t cur ∧ (∀ y, W1.drew.cell? y = W1.cell? y) ∧ w' = ((W1.setCells g i [x]).drew).setCells g (i + 1) (cs.drop i)) (hs : cur.size = c) (hg : base ≤ g) (hcl : cs.length = n) (hi : i < n) (hroom : n + 1 ≤ c) (hm : c ≤ maxLen)
    (hpre : ∀ j, j < i → cur[j]? = cs[j]?) : w'.ownsRow base t 1 (.slice (some ⟨g, 0, none⟩) (n + 1) c) (n + 1) (cs.take i ++ x :: cs.drop i) := by
  obtain ⟨W1, hB, _, rfl⟩ := hw'
  obtain ⟨c1, hs1, hB1⟩ := blk_setCells [x] i W1 cur hB
  have hB1d : Blk (W1.setCells g i [x]).drew g t c1 := hB1
  obtain ⟨c2, hs2, hB2⟩ := blk_setCells (cs.drop i) (i + 1) _ _ hB1d
  have hdl : (cs.drop i).length = n - i := by rw [List.length_drop, hcl]
  have hc1 : ∀ j, c1[j]? = if j = i then some x else cur[j]? := fun j => by
    rw [← hB1.cell j]
    by_cases e : j = i
    · subst e
      rw [if_pos rfl]
      have := World.cell?_setCells_in g [x] j W1 (fun k hk => by
        have h0 : k = 0 := by simpa using hk
        subst h0
        rw [Nat.add_zero, hB.cell j, Array.getElem?_eq_getElem (by omega)]; rfl) 0 (by simp)
      simpa using this
    · rw [if_neg e, World.cell?_setCells_out g [x] i W1 ⟨g, j, none⟩ (fun _ _ => by simp; omega), hB.cell j]
  have hc2 : ∀ j, c2[j]? = if i + 1 ≤ j ∧ j < n + 1 then cs[j - 1]? else c1[j]? := fun j => by
    rw [← hB2.cell j]
    by_cases e : i + 1 ≤ j ∧ j < n + 1
    · rw [if_pos e]
      have := World.cell?_setCells_in g (cs.drop i) (i + 1) (W1.setCells g i [x]).drew (fun k hk => by
        rw [hdl] at hk
        rw [hB1d.cell (i + 1 + k), Array.getElem?_eq_getElem (by omega)]; rfl) (j - (i + 1)) (by omega)
      rw [show i + 1 + (j - (i + 1)) = j by omega] at this
      rw [this, List.getElem_drop, List.getElem?_eq_getElem (by omega)]
      congr 2
      omega
    · rw [if_neg e, World.cell?_setCells_out g (cs.drop i) (i + 1) _ ⟨g, j, none⟩ (fun _ _ => by rw [hdl]; show j < i + 1 ∨ i + 1 + (n - i) ≤ j; omega), hB1d.cell j]
  refine ⟨by simp; omega, .inr ⟨g, c, c2, rfl, hg, hB2, hroom, hm, by omega, ?_⟩⟩
  apply List.ext_getElem?
  intro j
  rw [List.getElem?_take, Array.getElem?_toList]
  by_cases hj : j < (n + 1) * 1
  · rw [if_pos hj, hc2 j]
    by_cases e : i + 1 ≤ j
    · rw [if_pos ⟨e, by omega⟩, List.getElem?_append_right (by rw [List.length_take]; omega), List.length_take, Nat.min_eq_left (by omega)]
      obtain ⟨k, rfl⟩ : ∃ k, j = i + 1 + k := ⟨j - i - 1, by omega⟩
      rw [show i + 1 + k - i = k + 1 by omega, List.getElem?_cons_succ, List.getElem?_drop]
      congr 1
      omega
    · rw [if_neg (fun q => e q.1), hc1 j]
      by_cases e2 : j = i
      · subst e2
        rw [if_pos rfl, List.getElem?_append_right (by rw [List.length_take]; omega), List.length_take, Nat.min_eq_left (by omega), Nat.sub_self]; rfl
      · rw [if_neg e2, List.getElem?_append_left (by rw [List.length_take]; omega), List.getElem?_take, if_pos (by omega)]
        exact hpre j (by omega)
  · rw [if_neg hj, List.getElem?_eq_none (by simp; omega)]
end Go.Proofs.YtjijlhjggpibjaaGreat
