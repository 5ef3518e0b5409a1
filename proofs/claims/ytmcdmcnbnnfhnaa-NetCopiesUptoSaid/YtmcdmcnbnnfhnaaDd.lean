/-
  Chapter 28: the clones of slices: a row of the call's own with the same cells.
-/
import Derived.Test.YtmcdmcnbnnfhnaaDc
import Derived.Laws.AppendOwn
namespace Go.Proofs.Ytmcdmcnbnnfhnaa
open Go.RowKit

/-- What a clone is: an empty slice, or a row of the call's own with the same cells. -/
def CloneOk (P : Nat → Prop) (w : World) (T : TypeId) (K : Nat) (xs : List (List DV)) (v' : Value) (w' : World) : Prop :=
  Below w.heap.size w w' ∧ ((xs = [] ∧ ∃ ao cap, v' = .slice ao 0 cap ∧ cap ≤ maxLen ∧ (ao = none → cap = 0)) ∨ (xs ≠ [] ∧ ∃ g cap, v' = .slice (some ⟨g, 0, none⟩) xs.length cap ∧ w.heap.size ≤ g ∧ RowD w' g cap T K (fun _ _ => P) xs))
def CloneMade (P : Nat → Prop) (w : World) (T : TypeId) (K : Nat) (xs : List (List DV)) (e : Ending) (w' : World) : Prop := ∃ v', e = .returned v' ∧ CloneOk P w T K xs v' w'
theorem CloneOk.of {P : Nat → Prop} {w w1 w' : World} {T : TypeId} {K : Nat} {xs : List (List DV)} {v' : Value} {us : Nat → Nat → Value} {v0 : Value} (hB1 : Below w.heap.size w w1) (hr : ∀ j (hj : j < xs.length) i (hi : i < xs[j].length), ReadsD P w (us j i) xs[j][i]) (hK : ∀ j (hj : j < xs.length), xs[j].length = K) (hL : xs.length ≤ 1048576) (h0 : w1.ownsRow w.heap.size T K v0 0 [])
    (hown : w'.ownsRow w.heap.size T K v' (0 + xs.length) ([] ++ (List.range (xs.length * K)).map fun q => us (q / K) (q % K))) (hg : w1.grownBy w' v0.ownBlock) : CloneOk P w T K xs v' w' := by
  have hb : Below w.heap.size w w' := hB1.grown hg hB1.size fun j hj => (h0.lt j hj).1
  refine ⟨hb, ?_⟩
  rw [Nat.zero_add, List.nil_append] at hown
  by_cases he : xs = []
  · subst he
    refine .inl ⟨rfl, ?_⟩
    rcases hown.2 with ⟨rfl, _⟩ | ⟨g, cap, cur, rfl, hbg, hgg, hn, hm, hs, ht⟩
    · exact ⟨none, 0, rfl, Nat.zero_le _, fun _ => rfl⟩
    · exact ⟨_, cap, rfl, hm, fun e => by cases e⟩
  · refine .inr ⟨he, ?_⟩
    have hpos := List.length_pos_iff.2 he
    rcases hown.2 with ⟨_, e⟩ | ⟨g, cap, cur, rfl, hbg, hgg, hn, hm, hs, ht⟩
    · omega
    · refine ⟨g, cap, rfl, hbg, cur, hgg, ⟨hn, hL⟩, hm, hs, fun j hj => ⟨hK j hj, fun i hi => ?_⟩⟩
      have hiK : i < K := by have := hK j hj; omega
      have hq : j * K + i < xs.length * K := by
        have : j * K + K ≤ xs.length * K := by rw [← Nat.succ_mul]; exact Nat.mul_le_mul_right _ (by omega)
        omega
      have h1 : (cur.toList.take (xs.length * K))[j * K + i]? = some (us ((j * K + i) / K) ((j * K + i) % K)) := by rw [ht, List.getElem?_map, List.getElem?_range hq]; rfl
      rw [List.getElem?_take, if_pos hq, Array.getElem?_toList] at h1
      have e1 : (j * K + i) / K = j := by rw [Nat.mul_comm, Nat.mul_add_div (by omega), Nat.div_eq_of_lt hiK, Nat.add_zero]
      have e2 : (j * K + i) % K = i := by rw [Nat.mul_comm, Nat.mul_add_mod, Nat.mod_eq_of_lt hiK]
      rw [e1, e2] at h1
      exact ⟨_, h1, (hr j hj i hi).on hb⟩
/-- append of a slice that is read to an empty new row. -/
theorem append_clone {P : Nat → Prop} {ops : Array Oper} {rest : List Oper} {o : Oper} {a : Act} {w w1 : World} {Q : Exit → Act → World → Prop} (hgd : o.guard = none) (s x : Operand) (t T : TypeId) (K bytes : Nat) (z : Value)
    (ho : o.op = .call { callee := .builtin .append, args := #[s, x], argTypes := #[t, t] }) (ht : Try.prog.underlying t = some (.slice T)) (hinf : (Try.prog.info? T).map (fun i => (i.zero, i.size, i.bytes)) = some (some z, K, bytes)) (hzs : z.cells.size = K) (hK0 : 0 < K) (hby : bytes ≤ 4096)
    (ad : Addr) (n c : Nat) (xs : List (List DV)) (hs : a.eval s = .slice (some ⟨w.heap.size, 0, none⟩) 0 0) (hw1 : w1 = w.alloc (.cells #[] T)) (hx : a.eval x = .slice (some ad) n c) (hr : ReadsD P w (.slice (some ad) n c) (.ls K xs))
    (h : ∀ v' w', CloneOk P w T K xs v' w' → wpList Try.prog ops Q rest (a.put o.dst v') w') : wpList Try.prog ops Q (o :: rest) a w1 := by
  obtain ⟨i0, hi, hz0, hz1, hz2⟩ := info_parts hinf
  obtain ⟨en, us, h1, h2, h3⟩ := hr.cells
  obtain ⟨_, _, _, _, _, _, hL⟩ := hr.slc
  subst en hw1
  have hB1 : Below w.heap.size w (w.alloc (.cells #[] T)) := (Below.refl _ _).alloc (Nat.le_refl _) _
  have h0 : (w.alloc (.cells #[] T)).ownsRow w.heap.size T K (.slice (some ⟨w.heap.size, 0, none⟩) 0 0) 0 [] := World.ownsRow_made w #[] 0 (Nat.le_refl _) (Nat.zero_le _) (by simp)
  have hbl : ad.block < w.heap.size ∨ xs = [] := by
    by_cases he : xs = []
    · exact .inr he
    · left
      obtain ⟨b, off, cap, us', e, _, hlt, _⟩ := hr.elem (j := 0) (List.length_pos_iff.2 he)
      injection e with e _ _
      injection e with e
      subst e; exact hlt
  refine wpList_append_own _ hgd s x t ho w.heap.size T i0 z K bytes ht hi hz0 hz1 hz2 hzs hK0 (.slice (some ⟨w.heap.size, 0, none⟩) 0 0) 0 [] hs h0 ad xs.length c ((List.range (xs.length * K)).map fun q => us (q / K) (q % K)) hx (by simp) ?_ ?_ (by unfold maxLen; omega) ?_ hB1.size ?_
  · intro q u hu
    have hlt : xs ≠ [] := by rintro rfl; simp at hu
    have hbl2 : ad.block < w.heap.size := hbl.resolve_right hlt
    have h4 := h3 q u hu
    have h5 := hB1.cell (p := ad.add q) (by unfold Addr.add; split <;> exact hbl2)
    exact h5.trans h4
  · intro u hu
    obtain ⟨q, hq, rfl⟩ := List.mem_map.1 hu
    have hq := List.mem_range.1 hq
    have hj : q / K < xs.length := (Nat.div_lt_iff_lt_mul hK0).2 hq
    exact (h1 (q / K) hj (q % K) (by rw [h2 _ hj]; exact Nat.mod_lt _ hK0)).one
  · have : xs.length * bytes ≤ 1048576 * 4096 := Nat.mul_le_mul hL hby
    rw [Nat.zero_add]; omega
  · intro v' w' g1 g2 _
    exact h v' w' (CloneOk.of hB1 h1 h2 hL h0 g1 g2)
theorem Try.info_rid : (Try.prog.info? 83).map (fun i => (i.zero, i.size, i.bytes)) = some (some (.agg #[.int .i64 0, .int .i64 0, .slice none 0 0]), 3, 40) := by kernel_rfl
set_option maxRecDepth 100000 in
theorem rid_clone {P : Nat → Prop} (v : Value) (xs : List (List DV)) (w : World) (h : ReadsD P w v (.ls 3 xs)) : Calls Try.prog 79 #[v] w (CloneMade P w 83 3 xs) := by
  have HR := Lib.hid h
  obtain ⟨ao, cap, rfl, hl, hm, h0, hL⟩ := h.slc
  cases ao with
  | none =>
    have hc := h0 rfl
    have hx : xs = [] := List.length_eq_zero_iff.1 (by omega)
    subst hx hc
    clear HR h hl hm h0 hL
    have hq : (binOp .eql 30 (.slice none 0 0) (.slice none 0 0)).run Try.prog w = .ok (.bool true) w := Lib.run_eql_slice_nil w 30 83 none 0 0 0 0 Try.underlying30
    go_enter Try.func79, Try.ntmps79
    go_wp2
    go_ret
    exact ⟨_, rfl, Below.refl _ _, .inl ⟨rfl, none, 0, rfl, Nat.zero_le _, fun _ => rfl⟩⟩
  | some ad =>
    clear h0 hl h
    have hq : (binOp .eql 30 (.slice (some ad) xs.length cap) (.slice none 0 0)).run Try.prog w = .ok (.bool false) w := Lib.run_eql_slice_nil w 30 83 (some ad) xs.length cap 0 0 Try.underlying30
    go_enter Try.func79, Try.ntmps79
    go_wp2_with (at_builtin; refine append_clone (P := P) (w := w) rfl _ _ 30 83 3 40 _ rfl Try.underlying30 Try.info_rid rfl (by decide) (by decide) ad xs.length cap xs rfl rfl rfl HR.out ?_)
    intro v' w' h'
    have HC := Lib.hid h'
    clear h'
    go_wp2
    go_ret
    exact ⟨_, rfl, HC.out⟩
theorem Try.info_base : (Try.prog.info? 106).map (fun i => (i.zero, i.size, i.bytes)) = some (some (.agg #[.slice none 0 0, .slice none 0 0]), 2, 48) := by kernel_rfl
set_option maxRecDepth 100000 in
theorem base_clone {P : Nat → Prop} (v : Value) (xs : List (List DV)) (w : World) (h : ReadsD P w v (.ls 2 xs)) : Calls Try.prog 57 #[v] w (CloneMade P w 106 2 xs) := by
  have HR := Lib.hid h
  obtain ⟨ao, cap, rfl, hl, hm, h0, hL⟩ := h.slc
  cases ao with
  | none =>
    have hc := h0 rfl
    have hx : xs = [] := List.length_eq_zero_iff.1 (by omega)
    subst hx hc
    clear HR h hl hm h0 hL
    have hq : (binOp .eql 31 (.slice none 0 0) (.slice none 0 0)).run Try.prog w = .ok (.bool true) w := Lib.run_eql_slice_nil w 31 106 none 0 0 0 0 Try.underlying31
    go_enter Try.func57, Try.ntmps57
    go_wp2
    go_ret
    exact ⟨_, rfl, Below.refl _ _, .inl ⟨rfl, none, 0, rfl, Nat.zero_le _, fun _ => rfl⟩⟩
  | some ad =>
    clear h0 hl h
    have hq : (binOp .eql 31 (.slice (some ad) xs.length cap) (.slice none 0 0)).run Try.prog w = .ok (.bool false) w := Lib.run_eql_slice_nil w 31 106 (some ad) xs.length cap 0 0 Try.underlying31
    go_enter Try.func57, Try.ntmps57
    go_wp2_with (at_builtin; refine append_clone (P := P) (w := w) rfl _ _ 31 106 2 48 _ rfl Try.underlying31 Try.info_base rfl (by decide) (by decide) ad xs.length cap xs rfl rfl rfl HR.out ?_)
    intro v' w' h'
    have HC := Lib.hid h'
    clear h'
    go_wp2
    go_ret
    exact ⟨_, rfl, HC.out⟩
theorem Try.info_proof : (Try.prog.info? 92).map (fun i => (i.zero, i.size, i.bytes)) = some (some (.agg #[.slice none 0 0, .int .i64 0, .int .i64 0, .int .i64 0, .slice none 0 0, .slice none 0 0, .slice none 0 0, .int .i64 0, .slice none 0 0, .slice none 0 0]), 10, 176) := by kernel_rfl
set_option maxRecDepth 100000 in
theorem proof_clone {P : Nat → Prop} (v : Value) (xs : List (List DV)) (w : World) (h : ReadsD P w v (.ls 10 xs)) : Calls Try.prog 61 #[v] w (CloneMade P w 92 10 xs) := by
  have HR := Lib.hid h
  obtain ⟨ao, cap, rfl, hl, hm, h0, hL⟩ := h.slc
  cases ao with
  | none =>
    have hc := h0 rfl
    have hx : xs = [] := List.length_eq_zero_iff.1 (by omega)
    subst hx hc
    clear HR h hl hm h0 hL
    have hq : (binOp .eql 34 (.slice none 0 0) (.slice none 0 0)).run Try.prog w = .ok (.bool true) w := Lib.run_eql_slice_nil w 34 92 none 0 0 0 0 Try.underlying34
    go_enter Try.func61, Try.ntmps61
    go_wp2
    go_ret
    exact ⟨_, rfl, Below.refl _ _, .inl ⟨rfl, none, 0, rfl, Nat.zero_le _, fun _ => rfl⟩⟩
  | some ad =>
    clear h0 hl h
    have hq : (binOp .eql 34 (.slice (some ad) xs.length cap) (.slice none 0 0)).run Try.prog w = .ok (.bool false) w := Lib.run_eql_slice_nil w 34 92 (some ad) xs.length cap 0 0 Try.underlying34
    go_enter Try.func61, Try.ntmps61
    go_wp2_with (at_builtin; refine append_clone (P := P) (w := w) rfl _ _ 34 92 10 176 _ rfl Try.underlying34 Try.info_proof rfl (by decide) (by decide) ad xs.length cap xs rfl rfl rfl HR.out ?_)
    intro v' w' h'
    have HC := Lib.hid h'
    clear h'
    go_wp2
    go_ret
    exact ⟨_, rfl, HC.out⟩
theorem Try.info_dig : (Try.prog.info? 110).map (fun i => (i.zero, i.size, i.bytes)) = some (some (.agg #[.slice none 0 0, .slice none 0 0, .int .i64 0]), 3, 56) := by kernel_rfl
set_option maxRecDepth 100000 in
theorem dig_clone {P : Nat → Prop} (v : Value) (xs : List (List DV)) (w : World) (h : ReadsD P w v (.ls 3 xs)) : Calls Try.prog 63 #[v] w (CloneMade P w 110 3 xs) := by
  have HR := Lib.hid h
  obtain ⟨ao, cap, rfl, hl, hm, h0, hL⟩ := h.slc
  cases ao with
  | none =>
    have hc := h0 rfl
    have hx : xs = [] := List.length_eq_zero_iff.1 (by omega)
    subst hx hc
    clear HR h hl hm h0 hL
    have hq : (binOp .eql 35 (.slice none 0 0) (.slice none 0 0)).run Try.prog w = .ok (.bool true) w := Lib.run_eql_slice_nil w 35 110 none 0 0 0 0 Try.underlying35
    go_enter Try.func63, Try.ntmps63
    go_wp2
    go_ret
    exact ⟨_, rfl, Below.refl _ _, .inl ⟨rfl, none, 0, rfl, Nat.zero_le _, fun _ => rfl⟩⟩
  | some ad =>
    clear h0 hl h
    have hq : (binOp .eql 35 (.slice (some ad) xs.length cap) (.slice none 0 0)).run Try.prog w = .ok (.bool false) w := Lib.run_eql_slice_nil w 35 110 (some ad) xs.length cap 0 0 Try.underlying35
    go_enter Try.func63, Try.ntmps63
    go_wp2_with (at_builtin; refine append_clone (P := P) (w := w) rfl _ _ 35 110 3 56 _ rfl Try.underlying35 Try.info_dig rfl (by decide) (by decide) ad xs.length cap xs rfl rfl rfl HR.out ?_)
    intro v' w' h'
    have HC := Lib.hid h'
    clear h'
    go_wp2
    go_ret
    exact ⟨_, rfl, HC.out⟩
theorem Try.info_str : (Try.prog.info? 9).map (fun i => (i.zero, i.size, i.bytes)) = some (some (.string ⟨#[]⟩), 1, 16) := by kernel_rfl
set_option maxRecDepth 100000 in
theorem str_clone {P : Nat → Prop} (v : Value) (xs : List (List DV)) (w : World) (h : ReadsD P w v (.ls 1 xs)) : Calls Try.prog 65 #[v] w (CloneMade P w 9 1 xs) := by
  have HR := Lib.hid h
  obtain ⟨ao, cap, rfl, hl, hm, h0, hL⟩ := h.slc
  cases ao with
  | none =>
    have hc := h0 rfl
    have hx : xs = [] := List.length_eq_zero_iff.1 (by omega)
    subst hx hc
    clear HR h hl hm h0 hL
    have hq : (binOp .eql 36 (.slice none 0 0) (.slice none 0 0)).run Try.prog w = .ok (.bool true) w := Lib.run_eql_slice_nil w 36 9 none 0 0 0 0 Try.underlying36
    go_enter Try.func65, Try.ntmps65
    go_wp2
    go_ret
    exact ⟨_, rfl, Below.refl _ _, .inl ⟨rfl, none, 0, rfl, Nat.zero_le _, fun _ => rfl⟩⟩
  | some ad =>
    clear h0 hl h
    have hq : (binOp .eql 36 (.slice (some ad) xs.length cap) (.slice none 0 0)).run Try.prog w = .ok (.bool false) w := Lib.run_eql_slice_nil w 36 9 (some ad) xs.length cap 0 0 Try.underlying36
    go_enter Try.func65, Try.ntmps65
    go_wp2_with (at_builtin; refine append_clone (P := P) (w := w) rfl _ _ 36 9 1 16 _ rfl Try.underlying36 Try.info_str rfl (by decide) (by decide) ad xs.length cap xs rfl rfl rfl HR.out ?_)
    intro v' w' h'
    have HC := Lib.hid h'
    clear h'
    go_wp2
    go_ret
    exact ⟨_, rfl, HC.out⟩
theorem Try.info_item : (Try.prog.info? 95).map (fun i => (i.zero, i.size, i.bytes)) = some (some (.agg #[.string ⟨#[]⟩, .bool false, .slice none 0 0, .slice none 0 0]), 4, 72) := by kernel_rfl
set_option maxRecDepth 100000 in
theorem item_clone {P : Nat → Prop} (v : Value) (xs : List (List DV)) (w : World) (h : ReadsD P w v (.ls 4 xs)) : Calls Try.prog 66 #[v] w (CloneMade P w 95 4 xs) := by
  have HR := Lib.hid h
  obtain ⟨ao, cap, rfl, hl, hm, h0, hL⟩ := h.slc
  cases ao with
  | none =>
    have hc := h0 rfl
    have hx : xs = [] := List.length_eq_zero_iff.1 (by omega)
    subst hx hc
    clear HR h hl hm h0 hL
    have hq : (binOp .eql 37 (.slice none 0 0) (.slice none 0 0)).run Try.prog w = .ok (.bool true) w := Lib.run_eql_slice_nil w 37 95 none 0 0 0 0 Try.underlying37
    go_enter Try.func66, Try.ntmps66
    go_wp2
    go_ret
    exact ⟨_, rfl, Below.refl _ _, .inl ⟨rfl, none, 0, rfl, Nat.zero_le _, fun _ => rfl⟩⟩
  | some ad =>
    clear h0 hl h
    have hq : (binOp .eql 37 (.slice (some ad) xs.length cap) (.slice none 0 0)).run Try.prog w = .ok (.bool false) w := Lib.run_eql_slice_nil w 37 95 (some ad) xs.length cap 0 0 Try.underlying37
    go_enter Try.func66, Try.ntmps66
    go_wp2_with (at_builtin; refine append_clone (P := P) (w := w) rfl _ _ 37 95 4 72 _ rfl Try.underlying37 Try.info_item rfl (by decide) (by decide) ad xs.length cap xs rfl rfl rfl HR.out ?_)
    intro v' w' h'
    have HC := Lib.hid h'
    clear h'
    go_wp2
    go_ret
    exact ⟨_, rfl, HC.out⟩
theorem Try.info_path : (Try.prog.info? 22).map (fun i => (i.zero, i.size, i.bytes)) = some (some (.slice none 0 0), 1, 24) := by kernel_rfl
set_option maxRecDepth 100000 in
theorem path_clone {P : Nat → Prop} (v : Value) (xs : List (List DV)) (w : World) (h : ReadsD P w v (.ls 1 xs)) : Calls Try.prog 67 #[v] w (CloneMade P w 22 1 xs) := by
  have HR := Lib.hid h
  obtain ⟨ao, cap, rfl, hl, hm, h0, hL⟩ := h.slc
  cases ao with
  | none =>
    have hc := h0 rfl
    have hx : xs = [] := List.length_eq_zero_iff.1 (by omega)
    subst hx hc
    clear HR h hl hm h0 hL
    have hq : (binOp .eql 93 (.slice none 0 0) (.slice none 0 0)).run Try.prog w = .ok (.bool true) w := Lib.run_eql_slice_nil w 93 22 none 0 0 0 0 Try.underlying93
    go_enter Try.func67, Try.ntmps67
    go_wp2
    go_ret
    exact ⟨_, rfl, Below.refl _ _, .inl ⟨rfl, none, 0, rfl, Nat.zero_le _, fun _ => rfl⟩⟩
  | some ad =>
    clear h0 hl h
    have hq : (binOp .eql 93 (.slice (some ad) xs.length cap) (.slice none 0 0)).run Try.prog w = .ok (.bool false) w := Lib.run_eql_slice_nil w 93 22 (some ad) xs.length cap 0 0 Try.underlying93
    go_enter Try.func67, Try.ntmps67
    go_wp2_with (at_builtin; refine append_clone (P := P) (w := w) rfl _ _ 93 22 1 24 _ rfl Try.underlying93 Try.info_path rfl (by decide) (by decide) ad xs.length cap xs rfl rfl rfl HR.out ?_)
    intro v' w' h'
    have HC := Lib.hid h'
    clear h'
    go_wp2
    go_ret
    exact ⟨_, rfl, HC.out⟩
theorem Try.info_cert : (Try.prog.info? 89).map (fun i => (i.zero, i.size, i.bytes)) = some (some (.agg #[.int .i64 0, .int .i64 0, .int .i64 0, .slice none 0 0, .slice none 0 0, .slice none 0 0, .int .i64 0, .slice none 0 0, .slice none 0 0]), 9, 152) := by kernel_rfl
set_option maxRecDepth 100000 in
theorem cert_clone {P : Nat → Prop} (v : Value) (xs : List (List DV)) (w : World) (h : ReadsD P w v (.ls 9 xs)) : Calls Try.prog 80 #[v] w (CloneMade P w 89 9 xs) := by
  have HR := Lib.hid h
  obtain ⟨ao, cap, rfl, hl, hm, h0, hL⟩ := h.slc
  cases ao with
  | none =>
    have hc := h0 rfl
    have hx : xs = [] := List.length_eq_zero_iff.1 (by omega)
    subst hx hc
    clear HR h hl hm h0 hL
    have hq : (binOp .eql 90 (.slice none 0 0) (.slice none 0 0)).run Try.prog w = .ok (.bool true) w := Lib.run_eql_slice_nil w 90 89 none 0 0 0 0 Try.underlying90
    go_enter Try.func80, Try.ntmps80
    go_wp2
    go_ret
    exact ⟨_, rfl, Below.refl _ _, .inl ⟨rfl, none, 0, rfl, Nat.zero_le _, fun _ => rfl⟩⟩
  | some ad =>
    clear h0 hl h
    have hq : (binOp .eql 90 (.slice (some ad) xs.length cap) (.slice none 0 0)).run Try.prog w = .ok (.bool false) w := Lib.run_eql_slice_nil w 90 89 (some ad) xs.length cap 0 0 Try.underlying90
    go_enter Try.func80, Try.ntmps80
    go_wp2_with (at_builtin; refine append_clone (P := P) (w := w) rfl _ _ 90 89 9 152 _ rfl Try.underlying90 Try.info_cert rfl (by decide) (by decide) ad xs.length cap xs rfl rfl rfl HR.out ?_)
    intro v' w' h'
    have HC := Lib.hid h'
    clear h'
    go_wp2
    go_ret
    exact ⟨_, rfl, HC.out⟩
theorem Try.info_wr : (Try.prog.info? 78).map (fun i => (i.zero, i.size, i.bytes)) = some (some (.agg #[.string ⟨#[]⟩, .slice none 0 0]), 2, 40) := by kernel_rfl
set_option maxRecDepth 100000 in
theorem wr_clone {P : Nat → Prop} (v : Value) (xs : List (List DV)) (w : World) (h : ReadsD P w v (.ls 2 xs)) : Calls Try.prog 81 #[v] w (CloneMade P w 78 2 xs) := by
  have HR := Lib.hid h
  obtain ⟨ao, cap, rfl, hl, hm, h0, hL⟩ := h.slc
  cases ao with
  | none =>
    have hc := h0 rfl
    have hx : xs = [] := List.length_eq_zero_iff.1 (by omega)
    subst hx hc
    clear HR h hl hm h0 hL
    have hq : (binOp .eql 79 (.slice none 0 0) (.slice none 0 0)).run Try.prog w = .ok (.bool true) w := Lib.run_eql_slice_nil w 79 78 none 0 0 0 0 Try.underlying79
    go_enter Try.func81, Try.ntmps81
    go_wp2
    go_ret
    exact ⟨_, rfl, Below.refl _ _, .inl ⟨rfl, none, 0, rfl, Nat.zero_le _, fun _ => rfl⟩⟩
  | some ad =>
    clear h0 hl h
    have hq : (binOp .eql 79 (.slice (some ad) xs.length cap) (.slice none 0 0)).run Try.prog w = .ok (.bool false) w := Lib.run_eql_slice_nil w 79 78 (some ad) xs.length cap 0 0 Try.underlying79
    go_enter Try.func81, Try.ntmps81
    go_wp2_with (at_builtin; refine append_clone (P := P) (w := w) rfl _ _ 79 78 2 40 _ rfl Try.underlying79 Try.info_wr rfl (by decide) (by decide) ad xs.length cap xs rfl rfl rfl HR.out ?_)
    intro v' w' h'
    have HC := Lib.hid h'
    clear h'
    go_wp2
    go_ret
    exact ⟨_, rfl, HC.out⟩
theorem Try.info_ack : (Try.prog.info? 87).map (fun i => (i.zero, i.size, i.bytes)) = some (some (.agg #[.int .i64 0, .slice none 0 0]), 2, 32) := by kernel_rfl
set_option maxRecDepth 100000 in
theorem ack_clone {P : Nat → Prop} (v : Value) (xs : List (List DV)) (w : World) (h : ReadsD P w v (.ls 2 xs)) : Calls Try.prog 82 #[v] w (CloneMade P w 87 2 xs) := by
  have HR := Lib.hid h
  obtain ⟨ao, cap, rfl, hl, hm, h0, hL⟩ := h.slc
  cases ao with
  | none =>
    have hc := h0 rfl
    have hx : xs = [] := List.length_eq_zero_iff.1 (by omega)
    subst hx hc
    clear HR h hl hm h0 hL
    have hq : (binOp .eql 33 (.slice none 0 0) (.slice none 0 0)).run Try.prog w = .ok (.bool true) w := Lib.run_eql_slice_nil w 33 87 none 0 0 0 0 Try.underlying33
    go_enter Try.func82, Try.ntmps82
    go_wp2
    go_ret
    exact ⟨_, rfl, Below.refl _ _, .inl ⟨rfl, none, 0, rfl, Nat.zero_le _, fun _ => rfl⟩⟩
  | some ad =>
    clear h0 hl h
    have hq : (binOp .eql 33 (.slice (some ad) xs.length cap) (.slice none 0 0)).run Try.prog w = .ok (.bool false) w := Lib.run_eql_slice_nil w 33 87 (some ad) xs.length cap 0 0 Try.underlying33
    go_enter Try.func82, Try.ntmps82
    go_wp2_with (at_builtin; refine append_clone (P := P) (w := w) rfl _ _ 33 87 2 32 _ rfl Try.underlying33 Try.info_ack rfl (by decide) (by decide) ad xs.length cap xs rfl rfl rfl HR.out ?_)
    intro v' w' h'
    have HC := Lib.hid h'
    clear h'
    go_wp2
    go_ret
    exact ⟨_, rfl, HC.out⟩
theorem Try.info_by : (Try.prog.info? 5).map (fun i => (i.zero, i.size, i.bytes)) = some (some (.int .u8 0), 1, 1) := by kernel_rfl
set_option maxRecDepth 100000 in
theorem by_clone {P : Nat → Prop} (v : Value) (xs : List (List DV)) (w : World) (h : ReadsD P w v (.ls 1 xs)) : Calls Try.prog 64 #[v] w (CloneMade P w 5 1 xs) := by
  have HR := Lib.hid h
  obtain ⟨ao, cap, rfl, hl, hm, h0, hL⟩ := h.slc
  cases ao with
  | none =>
    have hc := h0 rfl
    have hx : xs = [] := List.length_eq_zero_iff.1 (by omega)
    subst hx hc
    clear HR h hl hm h0 hL
    have hq : (binOp .eql 22 (.slice none 0 0) (.slice none 0 0)).run Try.prog w = .ok (.bool true) w := Lib.run_eql_slice_nil w 22 5 none 0 0 0 0 Try.underlying22
    go_enter Try.func64, Try.ntmps64
    go_wp2
    go_ret
    exact ⟨_, rfl, Below.refl _ _, .inl ⟨rfl, none, 0, rfl, Nat.zero_le _, fun _ => rfl⟩⟩
  | some ad =>
    clear h0 hl h
    have hq : (binOp .eql 22 (.slice (some ad) xs.length cap) (.slice none 0 0)).run Try.prog w = .ok (.bool false) w := Lib.run_eql_slice_nil w 22 5 (some ad) xs.length cap 0 0 Try.underlying22
    go_enter Try.func64, Try.ntmps64
    go_wp2_with (at_builtin; refine append_clone (P := P) (w := w) rfl _ _ 22 5 1 1 _ rfl Try.underlying22 Try.info_by rfl (by decide) (by decide) ad xs.length cap xs rfl rfl rfl HR.out ?_)
    intro v' w' h'
    have HC := Lib.hid h'
    clear h'
    go_wp2
    go_ret
    exact ⟨_, rfl, HC.out⟩
end Go.Proofs.Ytmcdmcnbnnfhnaa
