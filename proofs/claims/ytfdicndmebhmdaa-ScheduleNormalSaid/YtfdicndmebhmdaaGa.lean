/-
  Chapter 29: Before.
-/
import Derived.Test.YtfdicndmebhmdaaEj
import Derived.Test.YtfdicndmebhmdaaPc
namespace Go.Proofs.Ytfdicndmebhmdaa
open Go.RowKit
/-- The cells of pairs. -/
def prC (l : List (Nat × Nat)) : List Value := l.flatMap fun p => [.int .i64 (p.1 : Nat), .int .i64 (p.2 : Nat)]
theorem prC_len (l : List (Nat × Nat)) : (prC l).length = l.length * 2 := by
  unfold prC
  induction l with
  | nil => rfl
  | cons p l ih => rw [List.flatMap_cons, List.length_append, ih, List.length_cons]; simp; omega
theorem prC_snoc (l : List (Nat × Nat)) (i j : Nat) : prC (l ++ [(i, j)]) = prC l ++ [.int .i64 (i : Nat), .int .i64 (j : Nat)] := by unfold prC; rw [List.flatMap_append]; simp
theorem Try.infoPair : (Try.prog.info? 43).map (fun i => (i.zero, i.size, i.bytes)) = some (some (.agg #[.int .i64 0, .int .i64 0]), 2, 16) := by kernel_rfl
def PairsMade (w : World) (l : List (Nat × Nat)) (e : Ending) (w' : World) : Prop := ∃ v, e = .returned v ∧ w'.ownsRow 0 43 2 v l.length (prC l) ∧ Below w.heap.size w w'
theorem Try.infoBools29 : (Try.prog.info? 58).map (fun i => (i.zero, i.size, i.bytes)) = some (some (.slice none 0 0), 1, 24) := by kernel_rfl
theorem make_grid (n : Nat) (hn : n ≤ 1000000) (w1 : World) : (Instr.makeSlice 57 (.int .i64 (n : Int)) (.int .i64 (n : Int))).run Try.prog w1 = .ok (.slice (some ⟨w1.heap.size, 0, none⟩) n n) (w1.alloc (.cells (rowF n fun _ => .slice none 0 0) 58)) := by
  obtain ⟨i0, hinf, hz0, hz1, hz2⟩ := info_parts Try.infoBools29
  have h0 := run_make (P := Try.prog) w1 57 58 i0 (.slice none 0 0) Try.underlying57 hinf hz0 .i64 .i64 (n : Int) (n : Int) (by omega) (Int.le_refl _) (by rw [hz2]; omega) (by omega)
  have e : ((n : Nat) : Int).toNat = n := by omega
  rw [e] at h0
  have e2 : madeCells (Value.slice none 0 0).cells (n * i0.size) = rowF n fun _ => .slice none 0 0 := by rw [hz1, Nat.mul_one]; exact made_rowF _ _
  rw [e2] at h0
  exact h0
/-- The rows from p on are done. -/
structure BefO (t : List Ev) (W wr : World) (gr p : Nat) (f : Nat → Value) (gb : Nat → Nat) : Prop where
  br : Blk wr gr 58 (rowF t.length f)
  old : ∀ k, p ≤ k → k < t.length → f k = .slice (some ⟨gb k, 0, none⟩) t.length t.length ∧ Blk wr (gb k) 4 (rowF t.length fun j => .bool (rch t k j)) ∧ W.heap.size ≤ gb k
  lo : W.heap.size ≤ gr
  bel : Below W.heap.size W wr
/-- Row i is under work. -/
structure BefS (t : List Ev) (W wr : World) (gr i : Nat) (R : Nat → Bool) (f : Nat → Value) (gb : Nat → Nat) : Prop where
  br : Blk wr gr 58 (rowF t.length f)
  cur : f i = .slice (some ⟨gb i, 0, none⟩) t.length t.length ∧ Blk wr (gb i) 4 (rowF t.length fun j => .bool (R j)) ∧ W.heap.size ≤ gb i
  old : ∀ k, i < k → k < t.length → f k = .slice (some ⟨gb k, 0, none⟩) t.length t.length ∧ Blk wr (gb k) 4 (rowF t.length fun j => .bool (rch t k j)) ∧ W.heap.size ≤ gb k ∧ gb k ≠ gb i
  lo : W.heap.size ≤ gr
  bel : Below W.heap.size W wr
section
variable {t : List Ev} {W wr w' : World} {gr p i : Nat} {R : Nat → Bool} {f : Nat → Value} {gb : Nat → Nat}
theorem BefS.on (h : BefS t W wr gr i R f gb) (hb : Below wr.heap.size wr w') : BefS t W w' gr i R f gb :=
  ⟨h.br.on hb, ⟨h.cur.1, h.cur.2.1.on hb, h.cur.2.2⟩, fun k h1 h2 => ⟨(h.old k h1 h2).1, (h.old k h1 h2).2.1.on hb, (h.old k h1 h2).2.2⟩, h.lo, h.bel.trans (hb.mono h.bel.size)⟩
theorem BefO.row (h : BefO t W wr gr (i + 1) f gb) (_hi : i < t.length) :
    BefS t W ((wr.setCell ⟨gr, i, none⟩ (.slice (some ⟨wr.heap.size, 0, none⟩) t.length t.length)).alloc (.cells (rowF t.length fun _ => .bool false) 4)) gr i (fun j => rkB t i (i + 1) j) (fun j => if j = i then .slice (some ⟨wr.heap.size, 0, none⟩) t.length t.length else f j) (fun j => if j = i then wr.heap.size else gb j) := by
  obtain ⟨w1, hw1⟩ : ∃ w1, w1 = wr.setCell ⟨gr, i, none⟩ (.slice (some ⟨wr.heap.size, 0, none⟩) t.length t.length) := ⟨_, rfl⟩
  have hk : Kept (fun b => b = gr) wr w1 := by rw [hw1]; exact Kept.set _ rfl
  have hs1 : w1.heap.size = wr.heap.size := by rw [hw1]; simp [World.setCell]
  have hb1 : Blk w1 gr 58 (rowF t.length fun j => if j = i then .slice (some ⟨wr.heap.size, 0, none⟩) t.length t.length else f j) := by
    have h1 := h.br.set_ i (.slice (some ⟨wr.heap.size, 0, none⟩) t.length t.length)
    rw [rowF_set, ← hw1] at h1
    exact h1
  have hW : Below W.heap.size W w1 := by rw [hw1]; exact h.bel.setCell (p := ⟨gr, i, none⟩) h.lo _
  rw [← hw1]
  refine ⟨hb1.alloc _, ⟨by simp, ?_, ?_⟩, fun k h1 h2 => ?_, h.lo, hW.alloc hW.size _⟩
  · simp only [if_true]
    have h1 := Blk.new w1 4 (rowF t.length fun _ => .bool false)
    have e : rowF t.length (fun _ => Value.bool false) = rowF t.length fun j => .bool (rkB t i (i + 1) j) := rowF_congr fun j _ => by rw [rkB_start t (Nat.le_refl _)]
    rw [e, hs1] at h1
    rw [e]
    exact h1
  · simp only [if_true]; exact h.bel.size
  · simp only [show ¬ k = i by omega, if_false, if_true]
    obtain ⟨a1, a2, a3⟩ := h.old k (by omega) h2
    exact ⟨a1, (hk.blk a2 (blk_ne a2 h.br (by decide))).alloc _, a3, by have := a2.lt; omega⟩
theorem BefS.set (h : BefS t W wr gr i R f gb) (k : Nat) (b : Bool) {R' : Nat → Bool} (hR : ∀ j, j < t.length → R' j = if j = k then b else R j) : BefS t W (wr.setCell ⟨gb i, k, none⟩ (.bool b)) gr i R' f gb := by
  have hk : Kept (fun x => x = gb i) wr (wr.setCell ⟨gb i, k, none⟩ (.bool b)) := Kept.set _ rfl
  refine ⟨hk.blk h.br (fun e => blk_ne h.cur.2.1 h.br (by decide) e.symm), ⟨h.cur.1, ?_, h.cur.2.2⟩, fun j h1 h2 => ?_, h.lo, h.bel.setCell (p := ⟨gb i, k, none⟩) h.cur.2.2 _⟩
  · have h1 := h.cur.2.1.set_ k (.bool b)
    rw [rowF_set] at h1
    rw [rowF_congr (g' := fun j => .bool (R' j)) (fun j hj => by
      rw [hR j hj]
      by_cases e : j = k
      · rw [if_pos e, if_pos e]
      · rw [if_neg e, if_neg e])] at h1
    exact h1
  · obtain ⟨a1, a2, a3, a4⟩ := h.old j h1 h2
    exact ⟨a1, hk.blk a2 a4, a3, a4⟩
theorem BefS.same (h : BefS t W wr gr i R f gb) {R' : Nat → Bool} (hR : ∀ j, j < t.length → R' j = R j) : BefS t W wr gr i R' f gb :=
  ⟨h.br, ⟨h.cur.1, by have h1 := h.cur.2.1; rw [rowF_congr (g' := fun j => .bool (R' j)) (fun j hj => by rw [hR j hj])] at h1; exact h1, h.cur.2.2⟩, h.old, h.lo, h.bel⟩
theorem BefS.fin (h : BefS t W wr gr i (fun j => rkB t i t.length j) f gb) : BefO t W wr gr i f gb :=
  ⟨h.br, fun k h1 h2 => by
    by_cases e : k = i
    · subst e
      refine ⟨h.cur.1, ?_, h.cur.2.2⟩
      have h3 := h.cur.2.1
      rw [rowF_congr (g' := fun j => .bool (rch t k j)) (fun j hj => by rw [rkB_all t hj])] at h3
      exact h3
    · obtain ⟨a1, a2, a3, _⟩ := h.old k (by omega) h2
      exact ⟨a1, a2, a3⟩, h.lo, h.bel⟩
theorem BefO.on (h : BefO t W wr gr p f gb) (hb : Below wr.heap.size wr w') : BefO t W w' gr p f gb :=
  ⟨h.br.on hb, fun k h1 h2 => ⟨(h.old k h1 h2).1, (h.old k h1 h2).2.1.on hb, (h.old k h1 h2).2.2⟩, h.lo, h.bel.trans (hb.mono h.bel.size)⟩
end
theorem append_pair {ops : Array Oper} {rest : List Oper} {o : Oper} {a : Act} {w : World} {Q : Exit → Act → World → Prop} (hgd : o.guard = none) (s x : Operand)
    (ho : o.op = .call { callee := .builtin .append, args := #[s, x], argTypes := #[40, 40] })
    (base : Nat) (v : Value) (l : List (Nat × Nat)) (g i j : Nat) (hs : a.eval s = v) (hown : w.ownsRow base 43 2 v l.length (prC l)) (hx : a.eval x = .slice (some ⟨g, 0, none⟩) 1 1) (hB : Blk w g 43 #[nv i, nv j]) (hlen : l.length ≤ 10000000) (hbase : base ≤ w.heap.size)
    (h : ∀ v' w', w'.ownsRow base 43 2 v' (l ++ [(i, j)]).length (prC (l ++ [(i, j)])) → w.grownBy w' v.ownBlock → wpList Try.prog ops Q rest (a.put o.dst v') w') : wpList Try.prog ops Q (o :: rest) a w := by
  obtain ⟨i0, hinf, hz0, hz1, hz2⟩ := info_parts Try.infoPair
  refine wpList_append_own w hgd s x 40 ho base 43 i0 _ 2 16 Try.underlying40 hinf hz0 hz1 hz2 rfl (by decide) v l.length (prC l) hs hown ⟨g, 0, none⟩ 1 1 [nv i, nv j] hx rfl ?_ ?_ (by unfold maxLen; omega) (by omega) hbase ?_
  · intro k u hu
    have h2 : (#[nv i, nv j] : Array Value)[k]? = some u := by simpa using hu
    rw [← h2, ← hB.cell k]
    by_cases h0 : k = 0 <;> simp [Addr.add, h0]
  · intro u hu
    simp only [List.mem_cons, List.not_mem_nil, or_false] at hu
    rcases hu with rfl | rfl <;> rfl
  · intro v' w' h1 h2 _
    exact h v' w' (by rw [List.length_append, prC_snoc]; exact h1) h2
theorem BefO.grown {t : List Ev} {W wr w' : World} {gr p B n : Nat} {f : Nat → Value} {gb : Nat → Nat} {v : Value} {xs : List Value} {wx : World} (h : BefO t W wr gr p f gb) (hr : wx.ownsRow B 43 2 v n xs) (hg : wr.grownBy w' v.ownBlock) (hB : gr < B ∧ W.heap.size ≤ B ∧ ∀ k, p ≤ k → k < t.length → gb k < B) : BefO t W w' gr p f gb := by
  have hk : Kept (fun b => B ≤ b) wr w' := Kept.ofG hg fun k hk => (hr.lt k hk.symm).1
  exact ⟨hk.blk h.br (by omega), fun k h1 h2 => ⟨(h.old k h1 h2).1, hk.blk (h.old k h1 h2).2.1 (by have := hB.2.2 k h1 h2; omega), (h.old k h1 h2).2.2⟩, h.lo, h.bel.trans (hk.below h.bel.size fun k h1 => by omega)⟩
set_option maxRecDepth 100000 in
set_option maxHeartbeats 8000000 in
theorem before_any (tv : Value) (t : List Ev) (W : World) (hr : ReadsE W tv t) (hn : t.length ≤ 1000) : Calls Try.prog 27 #[tv] W (PairsMade W (bfE t)) := by
  have HR := Lib.hid hr
  obtain ⟨ao, cap, rfl, hl, hm, -, -⟩ := hr
  unfold maxLen at hm
  have hmg := make_grid t.length (by omega) W
  have HMB := Lib.hid (make_bools t.length (by omega))
  obtain ⟨i0, hinf, hz0, hz1, hz2⟩ := info_parts Try.infoPair
  have HPI := Lib.hid (And.intro hinf (And.intro hz0 (And.intro hz1 hz2)))
  clear hinf hz0 hz1 hz2
  go_enter Try.func27, Try.ntmps27
  go_upto_region 2 with fail
  have H0 : Hid (BefO t W (W.alloc (.cells (rowF t.length fun _ => .slice none 0 0) 58)) W.heap.size t.length (fun _ => .slice none 0 0) (fun _ => 0)) := Lib.hid ⟨Blk.new _ _ _, fun k h1 h2 => by omega, Nat.le_refl _, (Below.refl _ _).alloc (Nat.le_refl _) _⟩
  generalize hw1 : World.alloc W _ = w1 at *
  generalize hgr : W.heap.size = gr at H0 ⊢
  clear hw1 hmg
  go_wp2
  go_loopg [4, 5, 6] t.length (fun m idx _ _ wr => ∃ (f : Nat → Value) (gb : Nat → Nat), m ≤ t.length ∧ idx = .int .i64 ((m : Int) - 1) ∧ BefO t W wr gr m f gb)
  case atStart => exact ⟨_, _, Nat.le_refl _, by go_num, H0.out⟩
  case round =>
    clear H0
    obtain ⟨f, gb, hml, rfl, hst⟩ := hrel
    have HST := Lib.hid hst
    clear hst
    cases gk with
    | zero =>
      have hz : ((0 : Nat) : Int) - 1 = -1 := by omega
      rw [hz]
      clear hz
      obtain ⟨wz, hwz⟩ : ∃ wz, wz = wr := ⟨_, rfl⟩
      subst hwz
      have HSZ : Hid (gr < wz.heap.size ∧ W.heap.size ≤ wz.heap.size ∧ ∀ k, 0 ≤ k → k < t.length → gb k < wz.heap.size) := Lib.hid ⟨HST.out.br.lt, HST.out.bel.size, fun k h1 h2 => (HST.out.old k h1 h2).2.1.lt⟩
      go_wp2
      go_loopg [7, 82] t.length (fun m o idx wl => ∃ k : Nat, m + k = t.length ∧ idx = .int .i64 k ∧ wl.ownsRow wz.heap.size 43 2 o (bfL t k).length (prC (bfL t k)) ∧ BefO t W wl gr 0 f gb ∧ wz.heap.size ≤ wl.heap.size)
      case atStart => exact ⟨0, by omega, rfl, by simp [bfL, prC, World.ownsRow], HST.out, Nat.le_refl _⟩
      case round =>
        clear HST
        obtain ⟨k, hmk, rfl, hown, hst, hsz⟩ := hrel
        have HM := Lib.hid hmk
        have HOO := Lib.hid (And.intro hown (And.intro hst hsz))
        have hk : k ≤ t.length := by omega
        clear hmk hown hst hsz
        by_cases hlt : k < t.length
        · have hki : (k : Int) < t.length := by omega
          have hk0 : (0 : Int) ≤ (k : Int) := by omega
          have HK := Lib.hid (And.intro hlt trivial)
          have HSU := Lib.hid (bfL_succ t k)
          clear hlt
          go_wp2
          obtain ⟨G1, hG1⟩ : ∃ G, G = gk := ⟨_, rfl⟩
          subst hG1
          go_loopg [7, 87] t.length (fun m o i wl => ∃ j : Nat, m + j = t.length ∧ i = .int .i64 j ∧ wl.ownsRow wz.heap.size 43 2 o (bfL t k ++ bfR t k j).length (prC (bfL t k ++ bfR t k j)) ∧ BefO t W wl gr 0 f gb ∧ wz.heap.size ≤ wl.heap.size)
          case atStart => exact ⟨0, by omega, rfl, by simpa [bfR] using HOO.out.1, HOO.out.2⟩
          case round =>
            clear HOO
            obtain ⟨j, hmj, rfl, hown, hst, hsz⟩ := hrel
            have HM2 := Lib.hid hmj
            have HOO := Lib.hid (And.intro hown (And.intro hst hsz))
            have hj : j ≤ t.length := by omega
            have hlen : (bfL t k ++ bfR t k j).length ≤ 1001000 := by
              rw [List.length_append]
              have h1 := bfL_len t k
              have h2 := bfR_len t k j
              have h3 : k * t.length ≤ 1000 * 1000 := Nat.mul_le_mul (by omega) hn
              omega
            clear hmj hown hst hsz
            by_cases hjlt : j < t.length
            · have hji : (j : Int) < t.length := by omega
              have hj0 : (0 : Int) ≤ (j : Int) := by omega
              have HJ := Lib.hid (And.intro hjlt trivial)
              have hold := HOO.out.2.1.old k (Nat.zero_le _) HK.out.1
              have c1 : wr.cell? ⟨gr, k, none⟩ = some (.slice (some ⟨gb k, 0, none⟩) t.length t.length) := by rw [← hold.1]; exact (HOO.out.2.1.br.cell k).trans (rowF_get HK.out.1)
              have c2 := (hold.2.1.cell j).trans (rowF_get hjlt)
              have HYN := Lib.hid (And.intro (@bfR_yes t k j) (@bfR_no t k j))
              clear hold hjlt
              generalize rch t k j = b at *
              cases b with
              | true =>
                have HN := Lib.hid (HYN.out.1 rfl)
                clear HYN
                generalize hL : bfL t k ++ bfR t k j = L at *
                have HLS : Hid (bfL t k ++ bfR t k (j + 1) = L ++ [(k, j)]) := Lib.hid (by rw [HN.out, ← hL, List.append_assoc])
                clear hL
                obtain ⟨oa, oc, rfl⟩ := row_slc HOO.out.1
                go_wp2_with (at_builtin; refine append_pair rfl _ _ rfl wz.heap.size (.slice oa L.length oc) L wr.heap.size k j rfl (HOO.out.1.alloc _) rfl (Blk.new _ _ _) (by omega) (by have := HOO.out.2.2; simp; omega) ?_)
                intro v5 w5 hown5 hgr5
                have H5 := Lib.hid (And.intro hown5 (And.intro ((HOO.out.2.1.on ((Below.refl _ _).alloc (Nat.le_refl _) _)).grown HOO.out.1 hgr5 HSZ.out) (show wz.heap.size ≤ w5.heap.size by have := HOO.out.2.2; have := hgr5.size; simp at this; omega)))
                clear hown5 hgr5 c1 c2
                go_wp2
                go_roundg (t.length - (j + 1))
                case measure => have := HM2.out; omega
                case rel => exact ⟨j + 1, by have := HM2.out; have := HJ.out.1; omega, by go_num, by rw [HLS.out, List.length_append]; exact H5.out.1, H5.out.2⟩
              | false =>
                have HN := Lib.hid (HYN.out.2 rfl)
                clear HYN
                go_wp2
                go_roundg (t.length - (j + 1))
                case measure => have := HM2.out; omega
                case rel => exact ⟨j + 1, by have := HM2.out; have := HJ.out.1; omega, by go_num, by rw [HN.out]; exact HOO.out⟩
            · have e : j = t.length := by omega
              subst e
              go_wp2
              go_roundg (t.length - (k + 1))
              case measure => have := HM.out; omega
              case rel => exact ⟨k + 1, by have := HM.out; have := HK.out.1; omega, by go_num, by rw [HSU.out]; exact HOO.out⟩
        · have e : k = t.length := by omega
          subst e
          have HOX := Lib.hid HOO.out
          clear HOO
          go_wp2
          go_ret
          exact ⟨_, rfl, ownsRow_base HOX.out.1 (Nat.zero_le _), HOX.out.2.1.bel⟩
    | succ i =>
      have hi : i < t.length := by omega
      have ei : ((i + 1 : Nat) : Int) - 1 = (i : Int) := by omega
      rw [ei]
      have hii : (i : Int) < t.length := by omega
      have hi0 : (0 : Int) ≤ (i : Int) := by omega
      have HI := Lib.hid (And.intro hi trivial)
      have c0 := (HST.out.br.cell i).trans (rowF_get hi)
      have f0 := HST.out.br.frozen i
      have l0 := HST.out.br.lt
      have hmk := HMB.out wr
      have HROW := Lib.hid (HST.out.row hi)
      clear hml ei hi
      go_upto_region 6 with fail
      generalize hw2 : World.alloc (World.setCell wr _ _) _ = w2 at *
      generalize hf' : (fun j => if j = i then (Value.slice (some ⟨wr.heap.size, 0, none⟩) t.length t.length) else f j) = f' at *
      generalize hg' : (fun j => if j = i then wr.heap.size else gb j) = gb' at *
      clear hw2 hf' hg' c0 f0 l0 hmk HST
      go_wp2
      go_loopg [5, 6] (t.length - (i + 1)) (fun m kk _ wl => ∃ k : Nat, m + k = t.length ∧ i < k ∧ kk = .int .i64 k ∧ BefS t W wl gr i (fun j => rkB t i k j) f' gb')
      case atStart => exact ⟨i + 1, by have := HI.out.1; omega, by omega, by go_num, HROW.out⟩
      case round =>
        clear HROW
        obtain ⟨k, hmk, hik, rfl, hst⟩ := hrel
        have HM2 := Lib.hid (And.intro hmk hik)
        have HST := Lib.hid hst
        have KW := Lib.hid hst.bel
        have hk : k ≤ t.length := by omega
        clear hmk hst
        by_cases hkl : k < t.length
        · have hki : (k : Int) < t.length := by omega
          have hk0 : (0 : Int) ≤ (k : Int) := by omega
          have HKL := Lib.hid (And.intro hkl trivial)
          have hlt := HI.out.1
          obtain ⟨b, off, cap1, s1, c1, hv, hcell, r1⟩ := HR.out.at2 hlt
          injection hv with e1 e2 e3
          subst e1
          obtain ⟨b', off', cap2, s2, c2, hv, hcell', r2⟩ := HR.out.at2 hkl
          injection hv with e1 e2' e3'
          injection e1 with e1
          injection e1 with e1 e4
          subst e1 e4
          have hdi : depI t i k = depE t[i] t[k] := by unfold depI; rw [nthE_eq hlt, nthE_eq hkl]
          have HX := Lib.hid (And.intro hcell r1)
          have HY := Lib.hid (And.intro hcell' r2)
          clear e2 e3 e2' e3' hcell hcell' r1 r2
          generalize t[i] = x at *
          generalize t[k] = y at *

          clear hlt hkl
          by_cases hd : depE x y = true
          · have HD := Lib.hid hd
            have HDI := Lib.hid (hdi.trans hd)
            clear hd hdi
            go_wp2
            refine region_left [.is (.slice (some ⟨b, off, none⟩) t.length cap), .is (.int .i64 (i : Int)), .is (.pointer (some ⟨b, off + i * 2, none⟩)), .is (.agg #[.int .i64 x.1, .slice s1 x.2.length c1]), .is (.slice (some ⟨b, off, none⟩) t.length cap), .is (.int .i64 (k : Int)), .is (.pointer (some ⟨b, off + k * 2, none⟩)), .is (.agg #[.int .i64 y.1, .slice s2 y.2.length c2]), .is (.bool true), .is (.bool false)] (by kernel_rfl) rfl (by kernel_rfl) (by kernel_rfl) (.cons ?y0 (.cons ?y1 (.cons ?y2 (.cons ?y3 (.cons ?y4 (.cons ?y5 (.cons ?y6 (.cons ?y7 (.cons ?y8 (.cons ?y9 .nil)))))))))) ?yfin
            case y0 =>
              intro wq hbw st  K hK
              have KQ := KW.out.trans (hbw.mono KW.out.size)
              simp only [Act.put, List.setIfInBounds_toArray, List.set_cons_zero, List.set_cons_succ] at hK ⊢
              unfold opStep
              rw [if_pos (by rfl)]
              go_simp
              exact hK.out _ _ (Below.refl _ _) rfl _ rfl
            case y1 =>
              intro wq hbw st  K hK
              have KQ := KW.out.trans (hbw.mono KW.out.size)
              simp only [Act.put, List.setIfInBounds_toArray, List.set_cons_zero, List.set_cons_succ] at hK ⊢
              unfold opStep
              rw [if_pos (by rfl)]
              go_simp
              exact hK.out _ _ (Below.refl _ _) rfl _ rfl
            case y2 =>
              intro wq hbw st  K hK
              have KQ := KW.out.trans (hbw.mono KW.out.size)
              simp only [Act.put, List.setIfInBounds_toArray, List.set_cons_zero, List.set_cons_succ] at hK ⊢
              unfold opStep
              rw [if_pos (by rfl)]
              go_simp
              exact hK.out _ _ (Below.refl _ _) rfl _ rfl
            case y3 =>
              intro wq hbw st  K hK
              have KQ := KW.out.trans (hbw.mono KW.out.size)
              simp only [Act.put, List.setIfInBounds_toArray, List.set_cons_zero, List.set_cons_succ] at hK ⊢
              unfold opStep
              rw [if_pos (by rfl)]
              have dd := Lib.hid (HX.out.1 _ KQ)
              have d0 := dd.out.1
              have d1 := dd.out.2
              go_simp
              exact hK.out _ _ (Below.refl _ _) rfl _ rfl
            case y4 =>
              intro wq hbw st  K hK
              have KQ := KW.out.trans (hbw.mono KW.out.size)
              simp only [Act.put, List.setIfInBounds_toArray, List.set_cons_zero, List.set_cons_succ] at hK ⊢
              unfold opStep
              rw [if_pos (by rfl)]
              go_simp
              exact hK.out _ _ (Below.refl _ _) rfl _ rfl
            case y5 =>
              intro wq hbw st  K hK
              have KQ := KW.out.trans (hbw.mono KW.out.size)
              simp only [Act.put, List.setIfInBounds_toArray, List.set_cons_zero, List.set_cons_succ] at hK ⊢
              unfold opStep
              rw [if_pos (by rfl)]
              go_simp
              exact hK.out _ _ (Below.refl _ _) rfl _ rfl
            case y6 =>
              intro wq hbw st  K hK
              have KQ := KW.out.trans (hbw.mono KW.out.size)
              simp only [Act.put, List.setIfInBounds_toArray, List.set_cons_zero, List.set_cons_succ] at hK ⊢
              unfold opStep
              rw [if_pos (by rfl)]
              go_simp
              exact hK.out _ _ (Below.refl _ _) rfl _ rfl
            case y7 =>
              intro wq hbw st  K hK
              have KQ := KW.out.trans (hbw.mono KW.out.size)
              simp only [Act.put, List.setIfInBounds_toArray, List.set_cons_zero, List.set_cons_succ] at hK ⊢
              unfold opStep
              rw [if_pos (by rfl)]
              have dd := Lib.hid (HY.out.1 _ KQ)
              have d0 := dd.out.1
              have d1 := dd.out.2
              go_simp
              exact hK.out _ _ (Below.refl _ _) rfl _ rfl
            case y8 =>
              intro wq hbw st  K hK
              have KQ := KW.out.trans (hbw.mono KW.out.size)
              simp only [Act.put, List.setIfInBounds_toArray, List.set_cons_zero, List.set_cons_succ] at hK ⊢
              unfold opStep
              rw [if_pos (by rfl)]
              go_simp
              have hpc := dep_any _ _ x y wq ⟨_, rfl, HX.out.2.keep KQ⟩ ⟨_, rfl, HY.out.2.keep KQ⟩
              rw [HD.out] at hpc
              refine hpc.mono ?_
              rintro e wz ⟨rfl, hbz⟩
              go_simp
              exact hK.out _ _ hbz rfl _ rfl
            case y9 =>
              intro wq hbw st  K hK
              have KQ := KW.out.trans (hbw.mono KW.out.size)
              simp only [Act.put, List.setIfInBounds_toArray, List.set_cons_zero, List.set_cons_succ] at hK ⊢
              unfold opStep
              rw [if_pos (by rfl)]
              go_simp
              exact hK.out _ _ (Below.refl _ _) rfl _ rfl
            case yfin =>
              intro wq hbw
              try simp only [FinAll]
              simp only [Act.put, List.setIfInBounds_toArray, List.set_cons_zero, List.set_cons_succ]
              have HST2 := Lib.hid (HST.out.on hbw)
              clear hbw HST KW HX HY HD
              have hcur := HST2.out.cur
              have HCUR := Lib.hid hcur
              have c1 : wq.cell? ⟨gr, i, none⟩ = some (.slice (some ⟨gb' i, 0, none⟩) t.length t.length) := by rw [← hcur.1]; exact (HST2.out.br.cell i).trans (rowF_get HI.out.1)
              have c2 := (hcur.2.1.cell k).trans (rowF_get HKL.out.1)
              have f2 := hcur.2.1.frozen k
              have l2 := hcur.2.1.lt
              have HST3 := Lib.hid (HST2.out.set k true (R' := fun j => rjB t i k (k + 1) j) (fun j _ => rjB_start t i k j))
              clear hcur
              go_upto_region 11 with fail
              generalize hw3 : World.setCell wq _ _ = w3 at *
              clear hw3 c1 c2 f2 l2 HST2 HCUR
              go_wp2
              obtain ⟨G2, hG2⟩ : ∃ G, G = gk := ⟨_, rfl⟩
              subst hG2
              go_loopg [6] (t.length - (k + 1)) (fun m jj wl => ∃ j : Nat, m + j = t.length ∧ k < j ∧ jj = .int .i64 j ∧ BefS t W wl gr i (fun x => rjB t i k j x) f' gb')
              case atStart => exact ⟨k + 1, by have := HKL.out.1; omega, by omega, by go_num, HST3.out⟩
              case round =>
                clear HST3
                obtain ⟨j, hmj, hkj, rfl, hst⟩ := hrel
                have HM3 := Lib.hid (And.intro hmj hkj)
                have HST := Lib.hid hst
                have hj : j ≤ t.length := by omega
                clear hmj hst
                by_cases hjl : j < t.length
                · have hji : (j : Int) < t.length := by omega
                  have hj0 : (0 : Int) ≤ (j : Int) := by omega
                  have HJL := Lib.hid (And.intro hjl trivial)
                  have hold := HST.out.old k HM2.out.2 HKL.out.1
                  have c1 : wr.cell? ⟨gr, i, none⟩ = some (.slice (some ⟨gb' i, 0, none⟩) t.length t.length) := by rw [← HST.out.cur.1]; exact (HST.out.br.cell i).trans (rowF_get HI.out.1)
                  have c2 : wr.cell? ⟨gr, k, none⟩ = some (.slice (some ⟨gb' k, 0, none⟩) t.length t.length) := by rw [← hold.1]; exact (HST.out.br.cell k).trans (rowF_get HKL.out.1)
                  have c3 := (HST.out.cur.2.1.cell j).trans (rowF_get hjl)
                  have c4 := (hold.2.1.cell j).trans (rowF_get hjl)
                  have f3 := HST.out.cur.2.1.frozen j
                  have l3 := HST.out.cur.2.1.lt
                  have HSET := Lib.hid (fun (b : Bool) (hb : (rjB t i k j j || rch t k j) = b) => HST.out.set j b (R' := fun x => rjB t i k (j + 1) x) (fun x _ => by rw [← hb]; exact rjB_succ HM3.out.2 x))
                  clear hold hjl
                  generalize rjB t i k j j = b1 at *
                  generalize rch t k j = b2 at *
                  cases b1 with
                  | true =>
                    have HN := Lib.hid (HSET.out true rfl)
                    clear HSET
                    go_wp2_with fail
                    go_region
                    go_wp2
                    go_roundg (t.length - (j + 1))
                    case measure => have := HM3.out; omega
                    case rel => exact ⟨j + 1, by have := HM3.out; have := HJL.out.1; omega, by have := HM3.out; omega, by go_num, HN.out.on ⟨rfl, rfl, rfl, Nat.le_refl _, fun _ _ => rfl⟩⟩
                  | false =>
                    have HN := Lib.hid (HSET.out b2 (by cases b2 <;> rfl))
                    clear HSET
                    go_wp2_with fail
                    go_region
                    go_wp2
                    go_roundg (t.length - (j + 1))
                    case measure => have := HM3.out; omega
                    case rel => exact ⟨j + 1, by have := HM3.out; have := HJL.out.1; omega, by have := HM3.out; omega, by go_num, HN.out.on ⟨rfl, rfl, rfl, Nat.le_refl _, fun _ _ => rfl⟩⟩
                · have e : j = t.length := by omega
                  subst e
                  have HF := Lib.hid (HST.out.same (R' := fun x => rkB t i (k + 1) x) (fun x hx => (rjB_all HM2.out.2 HDI.out hx).symm))
                  go_wp2
                  go_roundg (t.length - (k + 1))
                  case measure => have := HM2.out; omega
                  case rel => exact ⟨k + 1, by have := HM2.out; have := HKL.out.1; omega, by have := HM2.out; omega, by go_num, HF.out⟩
          · rw [Bool.not_eq_true] at hd
            have HD := Lib.hid hd
            have HDI := Lib.hid (hdi.trans hd)
            clear hd hdi
            go_wp2
            refine region_left [.is (.slice (some ⟨b, off, none⟩) t.length cap), .is (.int .i64 (i : Int)), .is (.pointer (some ⟨b, off + i * 2, none⟩)), .is (.agg #[.int .i64 x.1, .slice s1 x.2.length c1]), .is (.slice (some ⟨b, off, none⟩) t.length cap), .is (.int .i64 (k : Int)), .is (.pointer (some ⟨b, off + k * 2, none⟩)), .is (.agg #[.int .i64 y.1, .slice s2 y.2.length c2]), .is (.bool false), .is (.bool true)] (by kernel_rfl) rfl (by kernel_rfl) (by kernel_rfl) (.cons ?x0 (.cons ?x1 (.cons ?x2 (.cons ?x3 (.cons ?x4 (.cons ?x5 (.cons ?x6 (.cons ?x7 (.cons ?x8 (.cons ?x9 .nil)))))))))) ?xfin
            case x0 =>
              intro wq hbw st  K hK
              have KQ := KW.out.trans (hbw.mono KW.out.size)
              simp only [Act.put, List.setIfInBounds_toArray, List.set_cons_zero, List.set_cons_succ] at hK ⊢
              unfold opStep
              rw [if_pos (by rfl)]
              go_simp
              exact hK.out _ _ (Below.refl _ _) rfl _ rfl
            case x1 =>
              intro wq hbw st  K hK
              have KQ := KW.out.trans (hbw.mono KW.out.size)
              simp only [Act.put, List.setIfInBounds_toArray, List.set_cons_zero, List.set_cons_succ] at hK ⊢
              unfold opStep
              rw [if_pos (by rfl)]
              go_simp
              exact hK.out _ _ (Below.refl _ _) rfl _ rfl
            case x2 =>
              intro wq hbw st  K hK
              have KQ := KW.out.trans (hbw.mono KW.out.size)
              simp only [Act.put, List.setIfInBounds_toArray, List.set_cons_zero, List.set_cons_succ] at hK ⊢
              unfold opStep
              rw [if_pos (by rfl)]
              go_simp
              exact hK.out _ _ (Below.refl _ _) rfl _ rfl
            case x3 =>
              intro wq hbw st  K hK
              have KQ := KW.out.trans (hbw.mono KW.out.size)
              simp only [Act.put, List.setIfInBounds_toArray, List.set_cons_zero, List.set_cons_succ] at hK ⊢
              unfold opStep
              rw [if_pos (by rfl)]
              have dd := Lib.hid (HX.out.1 _ KQ)
              have d0 := dd.out.1
              have d1 := dd.out.2
              go_simp
              exact hK.out _ _ (Below.refl _ _) rfl _ rfl
            case x4 =>
              intro wq hbw st  K hK
              have KQ := KW.out.trans (hbw.mono KW.out.size)
              simp only [Act.put, List.setIfInBounds_toArray, List.set_cons_zero, List.set_cons_succ] at hK ⊢
              unfold opStep
              rw [if_pos (by rfl)]
              go_simp
              exact hK.out _ _ (Below.refl _ _) rfl _ rfl
            case x5 =>
              intro wq hbw st  K hK
              have KQ := KW.out.trans (hbw.mono KW.out.size)
              simp only [Act.put, List.setIfInBounds_toArray, List.set_cons_zero, List.set_cons_succ] at hK ⊢
              unfold opStep
              rw [if_pos (by rfl)]
              go_simp
              exact hK.out _ _ (Below.refl _ _) rfl _ rfl
            case x6 =>
              intro wq hbw st  K hK
              have KQ := KW.out.trans (hbw.mono KW.out.size)
              simp only [Act.put, List.setIfInBounds_toArray, List.set_cons_zero, List.set_cons_succ] at hK ⊢
              unfold opStep
              rw [if_pos (by rfl)]
              go_simp
              exact hK.out _ _ (Below.refl _ _) rfl _ rfl
            case x7 =>
              intro wq hbw st  K hK
              have KQ := KW.out.trans (hbw.mono KW.out.size)
              simp only [Act.put, List.setIfInBounds_toArray, List.set_cons_zero, List.set_cons_succ] at hK ⊢
              unfold opStep
              rw [if_pos (by rfl)]
              have dd := Lib.hid (HY.out.1 _ KQ)
              have d0 := dd.out.1
              have d1 := dd.out.2
              go_simp
              exact hK.out _ _ (Below.refl _ _) rfl _ rfl
            case x8 =>
              intro wq hbw st  K hK
              have KQ := KW.out.trans (hbw.mono KW.out.size)
              simp only [Act.put, List.setIfInBounds_toArray, List.set_cons_zero, List.set_cons_succ] at hK ⊢
              unfold opStep
              rw [if_pos (by rfl)]
              go_simp
              have hpc := dep_any _ _ x y wq ⟨_, rfl, HX.out.2.keep KQ⟩ ⟨_, rfl, HY.out.2.keep KQ⟩
              rw [HD.out] at hpc
              refine hpc.mono ?_
              rintro e wz ⟨rfl, hbz⟩
              go_simp
              exact hK.out _ _ hbz rfl _ rfl
            case x9 =>
              intro wq hbw st  K hK
              have KQ := KW.out.trans (hbw.mono KW.out.size)
              simp only [Act.put, List.setIfInBounds_toArray, List.set_cons_zero, List.set_cons_succ] at hK ⊢
              unfold opStep
              rw [if_pos (by rfl)]
              go_simp
              exact hK.out _ _ (Below.refl _ _) rfl _ rfl
            case xfin =>
              intro wq hbw
              try simp only [FinAll]
              simp only [Act.put, List.setIfInBounds_toArray, List.set_cons_zero, List.set_cons_succ]
              have HST2 := Lib.hid ((HST.out.on hbw).same (R' := fun x => rkB t i (k + 1) x) (fun x _ => rkB_no HDI.out x))
              clear hbw HST KW HX HY HD
              go_wp2
              go_roundg (t.length - (k + 1))
              case measure => have := HM2.out; omega
              case rel => exact ⟨k + 1, by have := HM2.out; have := HKL.out.1; omega, by have := HM2.out; omega, by go_num, HST2.out⟩

        · have e : k = t.length := by omega
          subst e
          have HF := Lib.hid HST.out.fin
          go_wp2
          go_roundg i
          case measure => omega
          case rel => exact ⟨f', gb', by have := HI.out.1; omega, by go_num, HF.out⟩
end Go.Proofs.Ytfdicndmebhmdaa
