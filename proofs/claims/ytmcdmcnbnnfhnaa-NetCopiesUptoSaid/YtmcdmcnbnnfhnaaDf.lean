/-
  Chapter 28: copies of commands.
-/
import Derived.Test.YtmcdmcnbnnfhnaaDe
import Derived.Laws.CopyOwn
import Derived.Laws.MakeOwn
namespace Go.Proofs.Ytmcdmcnbnnfhnaa
open Go.RowKit

theorem run_copy_rowK (w : World) (dT sT ty elem : TypeId) (g dCap : Nat) (a : Addr) (n sCap K : Nat) (cur : Array Value) (t : TypeId) (cs : List Value) (hu : Try.prog.underlying dT = some (.slice elem)) (hs : (Try.prog.info? elem).map (·.size) = some K)
    (hg : w.heap[g]? = some (.cells cur t (0, 0))) (hn : cs.length = n * K) (hsrc : ∀ j v, cs[j]? = some v → w.cell? (a.add j) = some v) (hfit : cs.length ≤ cur.size) (h1 : ∀ v ∈ cs, v.oneCell' = true) :
    (Builtin.copy_ #[dT, sT] ty #[.slice (some ⟨g, 0, none⟩) n dCap, .slice (some a) n sCap]).run Try.prog w = .ok (goInt n) (w.setRow g (cs ++ cur.toList.drop cs.length).toArray) := by
  have hl := run_loadCells_list (P := Try.prog) w a cs hsrc
  have hst := run_storeCells_at Try.prog g 0 t cs 0 cur w hg (by simpa using hfit) h1
  cases hq : Try.prog.info? elem with
  | none => simp [hq] at hs
  | some i =>
    have hi : i.size = K := by simpa [hq] using hs
    rw [hn] at hl
    have hmin : Nat.min n n = n := Nat.min_self n
    simp [Builtin.copy_, run_underlying hu, Builtin.lenOf, Builtin.firstCells, sizeOf, typeInfo, hq, hi, hmin, hl, hst]
/-- copy of a slice that is read into a new row of its length. -/
theorem copy_clone {P : Nat → Prop} {w w1 : World} (t T ty : TypeId) (K : Nat) (ht : Try.prog.underlying t = some (.slice T)) (hinf : (Try.prog.info? T).map (·.size) = some K) (hK0 : 0 < K)
    (g c n : Nat) (ao : Option Addr) (xs : List (List DV)) (en : n = xs.length) (cur : Array Value) (hr : ReadsD P w (.slice ao n c) (.ls K xs)) (hg : Blk w1 g T cur) (hcur : cur.size = n * K) (hw : Below w.heap.size w w1) (hgw : w.heap.size ≤ g) :
    ∃ w', (Builtin.copy_ #[t, t] ty #[.slice (some ⟨g, 0, none⟩) n n, .slice ao n c]).run Try.prog w1 = .ok (goInt n) w' ∧ RowD w' g n T K (fun _ _ => P) xs ∧ Below w.heap.size w w' := by
  subst en
  obtain ⟨_, _, _, _, hm, _, hL⟩ := hr.slc
  have hmx : xs.length ≤ maxLen := by unfold maxLen; omega
  by_cases he : xs = []
  · subst he
    have hl : ∀ (x : Addr), (loadCells x 0).run Try.prog w1 = .ok #[] w1 := fun x => by simpa using run_loadCells_list (P := Try.prog) w1 x [] (by simp)
    have hrun : (Builtin.copy_ #[t, t] ty #[.slice (some ⟨g, 0, none⟩) 0 0, .slice ao 0 c]).run Try.prog w1 = .ok (goInt 0) w1 := by
      cases hq : Try.prog.info? T with
      | none => simp [hq] at hinf
      | some i => cases ao <;> simp [Builtin.copy_, run_underlying ht, Builtin.lenOf, Builtin.firstCells, sizeOf, typeInfo, hq, storeCells, hl]
    exact ⟨w1, hrun, ⟨cur, hg, ⟨Nat.zero_le _, Nat.zero_le _⟩, Nat.zero_le _, hcur, fun j hj => absurd hj (Nat.not_lt_zero _)⟩, hw⟩
  · have hpos := List.length_pos_iff.2 he
    obtain ⟨b, off, cap, us', e, hPb, hlt, _⟩ := hr.elem (j := 0) hpos
    injection e with e1 e2 e3
    subst e1
    obtain ⟨en, us, h1, h2, h3⟩ := hr.cells
    have hlen : ((List.range (xs.length * K)).map fun q => us (q / K) (q % K)).length = xs.length * K := by simp
    have hrun := run_copy_rowK w1 t t ty T g xs.length ⟨b, off, none⟩ xs.length c K cur T ((List.range (xs.length * K)).map fun q => us (q / K) (q % K)) ht hinf hg hlen (fun q u hu => by
      have h4 := h3 q u hu
      have h5 := hw.cell (p := (⟨b, off, none⟩ : Addr).add q) (by unfold Addr.add; split <;> exact hlt)
      exact h5.trans h4) (by rw [hlen, hcur]; exact Nat.le_refl _) (fun u hu => by
      obtain ⟨q, hq, rfl⟩ := List.mem_map.1 hu
      have hq := List.mem_range.1 hq
      have hj : q / K < xs.length := (Nat.div_lt_iff_lt_mul hK0).2 hq
      exact (h1 (q / K) hj (q % K) (by rw [h2 _ hj]; exact Nat.mod_lt _ hK0)).one)
    rw [List.drop_of_length_le (by rw [hlen, Array.length_toList, hcur]; exact Nat.le_refl _), List.append_nil] at hrun
    have hb : Below w.heap.size w (w1.setRow g ((List.range (xs.length * K)).map fun q => us (q / K) (q % K)).toArray) := Proofs.Ytmcdmcnbnnfhnaa.below_setRow hw hgw
    refine ⟨_, hrun, ⟨_, hg.setRow _, ⟨Nat.le_refl _, hL⟩, hmx, by simp, fun j hj => ⟨h2 j hj, fun i hi => ?_⟩⟩, hb⟩
    have hiK : i < K := by have := h2 j hj; omega
    have hq : j * K + i < xs.length * K := by
      have : j * K + K ≤ xs.length * K := by rw [← Nat.succ_mul]; exact Nat.mul_le_mul_right _ (by omega)
      omega
    have e1 : (j * K + i) / K = j := by rw [Nat.mul_comm, Nat.mul_add_div (by omega), Nat.div_eq_of_lt hiK, Nat.add_zero]
    have e2 : (j * K + i) % K = i := by rw [Nat.mul_comm, Nat.mul_add_mod, Nat.mod_eq_of_lt hiK]
    refine ⟨us j i, ?_, (h1 j hj i hi).on hb⟩
    rw [List.getElem?_toArray, List.getElem?_map, List.getElem?_range hq, Option.map_some, e1, e2]
/-- A row of which one cell is open: it holds v0. -/
def RowO (w : World) (g cap : Nat) (T : TypeId) (K : Nat) (Q : Nat → Nat → Nat → Prop) (ds : List (List DV)) (j0 i0 : Nat) (v0 : Value) : Prop :=
  ∃ cur : Array Value, Blk w g T cur ∧ (ds.length ≤ cap ∧ ds.length ≤ 1048576) ∧ cap ≤ maxLen ∧ cur.size = cap * K ∧ cur[j0 * K + i0]? = some v0 ∧ ∀ j (hj : j < ds.length), ds[j].length = K ∧ ∀ i (hi : i < ds[j].length), ¬ (j = j0 ∧ i = i0) → ∃ u, cur[j * K + i]? = some u ∧ ReadsD (Q j i) w u ds[j][i]
section
variable {w w' : World} {g cap K j0 i0 : Nat} {T : TypeId} {Q Q' : Nat → Nat → Nat → Prop} {ds : List (List DV)} {v0 : Value}
theorem RowO.on (h : RowO w g cap T K Q ds j0 i0 v0) (hb : Below w.heap.size w w') : RowO w' g cap T K Q ds j0 i0 v0 := by
  obtain ⟨cur, h1, h2, h3, h4, hv, h5⟩ := h
  exact ⟨cur, h1.on hb, h2, h3, h4, hv, fun j hj => ⟨(h5 j hj).1, fun i hi hne => by obtain ⟨u, a, b⟩ := (h5 j hj).2 i hi hne; exact ⟨u, a, b.on hb⟩⟩⟩
theorem RowO.kept {S : Nat → Prop} (h : RowO w g cap T K Q ds j0 i0 v0) (hk : Kept S w w') (hg : ¬ S g) (hs : ∀ j i b, Q j i b → ¬ S b) : RowO w' g cap T K Q ds j0 i0 v0 := by
  obtain ⟨cur, h1, h2, h3, h4, hv, h5⟩ := h
  exact ⟨cur, hk.blk h1 hg, h2, h3, h4, hv, fun j hj => ⟨(h5 j hj).1, fun i hi hne => by obtain ⟨u, a, b⟩ := (h5 j hj).2 i hi hne; exact ⟨u, a, b.kept hk (hs j i)⟩⟩⟩
theorem RowO.lt (h : RowO w g cap T K Q ds j0 i0 v0) : g < w.heap.size := by
  obtain ⟨cur, h1, _⟩ := h
  exact h1.lt
theorem RowO.cell (h : RowO w g cap T K Q ds j0 i0 v0) (hb : Below w.heap.size w w') : w'.cell? ⟨g, j0 * K + i0, none⟩ = some v0 := by
  obtain ⟨cur, h1, h2, h3, h4, hv, h5⟩ := h
  rw [(h1.on hb).cell]; exact hv
theorem cell_ne {K j0 i0 j i : Nat} (h1 : i < K) (h2 : i0 < K) (hne : ¬ (j = j0 ∧ i = i0)) : ¬ j0 * K + i0 = j * K + i := fun e2 => hne (by
  have e3 : (j0 * K + i0) / K = j0 := by rw [Nat.mul_comm, Nat.mul_add_div (by omega), Nat.div_eq_of_lt h2, Nat.add_zero]
  have e4 : (j * K + i) / K = j := by rw [Nat.mul_comm, Nat.mul_add_div (by omega), Nat.div_eq_of_lt h1, Nat.add_zero]
  have e5 : j = j0 := by rw [← e4, ← e2, e3]
  subst e5
  exact ⟨rfl, by omega⟩)
theorem RowD.open_ (h : RowD w g cap T K Q ds) (hj : j0 < ds.length) (hi : i0 < ds[j0].length) (hQ : ∀ j i, ¬ Q j i g) (v0 : Value) : RowO (w.setCell ⟨g, j0 * K + i0, none⟩ v0) g cap T K Q ds j0 i0 v0 := by
  obtain ⟨cur, h1, h2, h3, h4, h5⟩ := h
  have hkg : Kept (fun b => b = g) w (w.setCell ⟨g, j0 * K + i0, none⟩ v0) := Kept.set _ rfl
  have hK0 := (h5 j0 hj).1
  refine ⟨cur.setIfInBounds (j0 * K + i0) v0, h1.set_ _ _, h2, h3, by simpa using h4, ?_, fun j hjj => ⟨(h5 j hjj).1, fun i hii hne => ?_⟩⟩
  · rw [Array.getElem?_setIfInBounds, if_pos rfl, if_pos ?_]
    have : j0 * K + K ≤ cap * K := by rw [← Nat.succ_mul]; exact Nat.mul_le_mul_right _ (by omega)
    omega
  · obtain ⟨z, a, b⟩ := (h5 j hjj).2 i hii
    refine ⟨z, ?_, b.kept hkg fun b hb e => hQ j i (e ▸ hb)⟩
    rw [Array.getElem?_setIfInBounds, if_neg (cell_ne (by have := (h5 j hjj).1; omega) (by omega) hne)]
    exact a
theorem RowO.close (h : RowO w g cap T K Q ds j0 i0 v0) {P : Nat → Prop} {d : DV} (hj : j0 < ds.length) (hi : i0 < ds[j0].length) (hd : d = ds[j0][i0]) (hv : ReadsD P w v0 d) (hQ' : ∀ j i b, (if j = j0 ∧ i = i0 then P b else Q j i b) → b < w.heap.size → Q' j i b) : RowD w g cap T K Q' ds := by
  subst hd
  obtain ⟨cur, h1, h2, h3, h4, hv0, h5⟩ := h
  refine ⟨cur, h1, h2, h3, h4, fun j hjj => ⟨(h5 j hjj).1, fun i hii => ?_⟩⟩
  by_cases e : j = j0 ∧ i = i0
  · obtain ⟨rfl, rfl⟩ := e
    exact ⟨v0, hv0, hv.mono fun b hb hl => hQ' j i b (by rw [if_pos ⟨rfl, rfl⟩]; exact hb) hl⟩
  · obtain ⟨z, a, b⟩ := (h5 j hjj).2 i hii e
    exact ⟨z, a, b.mono fun c hc hl => hQ' j i c (by rw [if_neg e]; exact hc) hl⟩
end
theorem Try.info_cmd : (Try.prog.info? 81).map (fun i => (i.zero, i.size, i.bytes)) = some (some (.agg #[.int .i64 0, .int .i64 0, .int .i64 0, .slice none 0 0, .int .i64 0, .slice none 0 0]), 6, 80) := by kernel_rfl
theorem cmd_size : (Try.prog.info? 81).map (·.size) = some 6 := by kernel_rfl
def cmdZero : Array Value := #[.int .i64 0, .int .i64 0, .int .i64 0, .slice none 0 0, .int .i64 0, .slice none 0 0]
theorem make_cmds (n : Nat) (hn : n ≤ 1048576) (w1 : World) : (Instr.makeSlice 32 (.int .i64 (n : Int)) (.int .i64 (n : Int))).run Try.prog w1 = .ok (.slice (some ⟨w1.heap.size, 0, none⟩) n n) (w1.alloc (.cells (madeCells cmdZero (n * 6)) 81)) := by
  obtain ⟨i0, hinf, hz0, hz1, hz2⟩ := info_parts Try.info_cmd
  have h0 := run_make (P := Try.prog) w1 32 81 i0 _ Try.underlying32 hinf hz0 .i64 .i64 (n : Int) (n : Int) (by omega) (Int.le_refl _) (by rw [hz2]; omega) (by omega)
  rw [hz1, Int.toNat_natCast] at h0
  exact h0
/-- The loop over commands: writes and tag of those before i are copied, in blocks between g and N. -/
def QC (B g N i : Nat) : Nat → Nat → Nat → Prop := fun j k b => if (k = 3 ∨ k = 5) ∧ j < i then g < b ∧ b < N else b < B
theorem QC.not {B g N i : Nat} (hg : B ≤ g) (j k : Nat) : ¬ QC B g N i j k g := by unfold QC; split <;> omega
theorem cmd_at3 (l : List CmdM) {i : Nat} (hi : i < l.length) : ∃ (h1 : i < (l.map cmdD).length) (h2 : 3 < ((l.map cmdD)[i]'h1).length), wrsD l[i].wr = ((l.map cmdD)[i]'h1)[3]'h2 := ⟨by simpa using hi, by simp [cmdD], by simp [cmdD]⟩
theorem cmd_at5 (l : List CmdM) {i : Nat} (hi : i < l.length) : ∃ (h1 : i < (l.map cmdD).length) (h2 : 5 < ((l.map cmdD)[i]'h1).length), bytesD l[i].tag = ((l.map cmdD)[i]'h1)[5]'h2 := ⟨by simpa using hi, by simp [cmdD], by simp [cmdD]⟩
theorem cmd_val (l : List CmdM) (j : Nat) (hj : j < (l.map cmdD).length) (i : Nat) (hi : i < (l.map cmdD)[j].length) (h3 : i ≠ 3) (h5 : i ≠ 5) : isVal (l.map cmdD)[j][i] := by
  simp only [List.getElem_map, cmdD, List.length_cons, List.length_nil] at hi ⊢
  match i, hi, h3, h5 with
  | 0, _, _, _ => trivial
  | 1, _, _, _ => trivial
  | 2, _, _, _ => trivial
  | 4, _, _, _ => trivial
  | 3, _, h, _ => exact absurd rfl h
  | 5, _, _, h => exact absurd rfl h
theorem wr_at (l : List WrM) {i : Nat} (hi : i < l.length) : ∃ (h1 : i < (l.map wrD).length) (h2 : 1 < ((l.map wrD)[i]'h1).length), bytesD l[i].delta = ((l.map wrD)[i]'h1)[1]'h2 := ⟨by simpa using hi, by simp [wrD], by simp [wrD]⟩
theorem wr_val (l : List WrM) (j : Nat) (hj : j < (l.map wrD).length) (i : Nat) (hi : i < (l.map wrD)[j].length) (hne : i ≠ 1) : isVal (l.map wrD)[j][i] := by
  simp only [List.getElem_map, wrD, List.length_cons, List.length_nil] at hi ⊢
  match i, hi, hne with
  | 0, _, _ => trivial
  | 1, _, h => exact absurd rfl h
def leftD (B : Nat) (d : DV) : Left := .has (fun v w => ReadsD (fun b => B ≤ b) w v d) fun _ _ _ hb h => h.on hb
end Go.Proofs.Ytmcdmcnbnnfhnaa
