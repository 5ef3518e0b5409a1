/-
  Chapter 54: history.Order.
-/
import Derived.Test.YtnpfalloelmflaaHd
namespace Go.Proofs.Ytnpfalloelmflaa
open Go.RowKit

def precAt (h : List Opn) (i j : Nat) : Bool := match h[i]?, h[j]? with | some a, some b => precB a b | _, _ => false
def rowL (h : List Opn) (i m : Nat) : List (Nat × Nat) := ((List.range m).filter fun j => precAt h i j).map fun j => (i, j)
def ordL (h : List Opn) (k : Nat) : List (Nat × Nat) := (List.range k).flatMap fun i => rowL h i h.length
theorem rowL_yes {h : List Opn} {i m : Nat} (hp : precAt h i m = true) : rowL h i (m + 1) = rowL h i m ++ [(i, m)] := by unfold rowL; rw [List.range_succ, List.filter_append, List.map_append]; simp [hp]
theorem rowL_no {h : List Opn} {i m : Nat} (hp : precAt h i m = false) : rowL h i (m + 1) = rowL h i m := by unfold rowL; rw [List.range_succ, List.filter_append, List.map_append]; simp [hp]
theorem ordL_succ (h : List Opn) (k : Nat) : ordL h (k + 1) = ordL h k ++ rowL h k h.length := by unfold ordL; rw [List.range_succ, List.flatMap_append]; simp
theorem rowL_len (h : List Opn) (i m : Nat) : (rowL h i m).length ≤ m := by
  unfold rowL
  rw [List.length_map]
  exact Nat.le_trans (List.length_filter_le _ _) (by simp)
theorem ordL_len (h : List Opn) : ∀ k, (ordL h k).length ≤ k * h.length
  | 0 => by simp [ordL]
  | k + 1 => by
    rw [ordL_succ, List.length_append, Nat.succ_mul]
    have := ordL_len h k
    have := rowL_len h k h.length
    omega
/-- The cells of pairs. -/
def prC (l : List (Nat × Nat)) : List Value := l.flatMap fun p => [.int .i64 (p.1 : Nat), .int .i64 (p.2 : Nat)]
theorem prC_len (l : List (Nat × Nat)) : (prC l).length = l.length * 2 := by
  unfold prC
  induction l with
  | nil => rfl
  | cons p l ih => rw [List.flatMap_cons, List.length_append, ih, List.length_cons]; simp; omega
theorem prC_snoc (l : List (Nat × Nat)) (i j : Nat) : prC (l ++ [(i, j)]) = prC l ++ [.int .i64 (i : Nat), .int .i64 (j : Nat)] := by unfold prC; rw [List.flatMap_append]; simp
theorem Try.infoPair : (Try.prog.info? 42).map (fun i => (i.zero, i.size, i.bytes)) = some (some (.agg #[.int .i64 0, .int .i64 0]), 2, 16) := by kernel_rfl
def OrderMade (w : World) (l : List (Nat × Nat)) (e : Ending) (w' : World) : Prop := ∃ v, e = .returned v ∧ w'.ownsRow 0 42 2 v l.length (prC l) ∧ Below w.heap.size w w'
theorem below_row_grown {W wr wd w' : World} {t : TypeId} {size n : Nat} {v : Value} {xs : List Value} (hb : Below W.heap.size W wr) (hd : Below wr.heap.size wr wd) (hrow : wr.ownsRow W.heap.size t size v n xs) (hg : wd.grownBy w' v.ownBlock) : Below W.heap.size W w' := by
  have h1 := hb.trans (hd.mono hb.size)
  refine ⟨hg.os.trans h1.os, hg.tape.trans h1.tape, hg.output.trans h1.output, Nat.le_trans h1.size hg.size, fun k hk => ?_⟩
  have h4 := h1.size
  rw [hg.block k (by omega) (fun e => by have := (hrow.lt k e.symm).1; omega)]
  exact h1.block k hk

set_option maxRecDepth 100000 in
set_option maxHeartbeats 4000000 in
theorem order_any (v : Value) (h : List Opn) (W : World) (hr : ReadsO W v h) (hn : h.length ≤ 1000) : Calls Try.prog 22 #[v] W (OrderMade W (ordL h h.length)) := by
  obtain ⟨i0, hinf, hz0, hz1, hz2⟩ := info_parts Try.infoPair
  have HI := Lib.hid (And.intro hinf (And.intro hz0 (And.intro hz1 hz2)))
  clear hinf hz0 hz1 hz2
  have HR := Lib.hid hr
  obtain ⟨ao, cap, rfl, hl, hm, -, -⟩ := hr
  unfold maxLen at hm
  go_enter Try.func22, Try.ntmps22
  go_wp2
  go_loopg [3, 8] h.length (fun m o i wr => ∃ k : Nat, m + k = h.length ∧ i = .int .i64 k ∧ wr.ownsRow W.heap.size 42 2 o (ordL h k).length (prC (ordL h k)) ∧ Below W.heap.size W wr)
  case atStart => exact ⟨0, by omega, rfl, by simp [ordL, prC, World.ownsRow], Below.refl _ _⟩
  case round =>
    obtain ⟨k, hmk, rfl, hown, hbel⟩ := hrel
    have HM := Lib.hid hmk
    have HOO := Lib.hid (And.intro hown hbel)
    have hk : k ≤ h.length := by omega
    clear hmk hown hbel
    by_cases hlt : k < h.length
    · have hki : (k : Int) < h.length := by omega
      have hk0 : (0 : Int) ≤ (k : Int) := by omega
      have HSU := Lib.hid (ordL_succ h k)
      go_wp2
      obtain ⟨G1, hG1⟩ : ∃ G, G = gk := ⟨_, rfl⟩
      subst hG1
      go_loopg [3, 13] h.length (fun m o i wr => ∃ j : Nat, m + j = h.length ∧ i = .int .i64 j ∧ wr.ownsRow W.heap.size 42 2 o (ordL h k ++ rowL h k j).length (prC (ordL h k ++ rowL h k j)) ∧ Below W.heap.size W wr)
      case atStart => exact ⟨0, by omega, rfl, by simpa [rowL] using HOO.out.1, HOO.out.2⟩
      case round =>
        clear HOO
        obtain ⟨j, hmj, rfl, hown, hbel⟩ := hrel
        have HM2 := Lib.hid hmj
        have HOO := Lib.hid (And.intro hown hbel)
        have hj : j ≤ h.length := by omega
        have hlen : (ordL h k ++ rowL h k j).length ≤ 1001000 := by
          rw [List.length_append]
          have h1 := ordL_len h k
          have h2 := rowL_len h k j
          have h3 : k * h.length ≤ 1000 * 1000 := Nat.mul_le_mul (by omega) hn
          omega
        clear hmj hown hbel
        by_cases hjlt : j < h.length
        · obtain ⟨b, off, cap1, a4, c4, a5, c5, hv, _, _, hm4, hm5, hl4, hl5, hcell, r1, r2⟩ := HR.out.at2 hlt
          injection hv with e1 e2 e3
          subst e1
          obtain ⟨b', off', cap2, d4, k4, d5, k5, hv, _, _, n4, n5, l4, l5, hcell', s1, s2⟩ := HR.out.at2 hjlt
          injection hv with e1 e2' e3'
          injection e1 with e1
          injection e1 with e1 e4
          subst e1 e4
          have hji : (j : Int) < h.length := by omega
          have hj0 : (0 : Int) ≤ (j : Int) := by omega
          have hpa : precAt h k j = precB h[k] h[j] := by unfold precAt; rw [List.getElem?_eq_getElem hlt, List.getElem?_eq_getElem hjlt]
          have HN := Lib.hid (And.intro hcell (And.intro r1 r2))
          have HN2 := Lib.hid (And.intro hcell' (And.intro s1 s2))
          have HYN := Lib.hid (And.intro (@rowL_yes h k j) (@rowL_no h k j))
          clear e2 e3 e2' e3' hcell hcell' r1 r2 s1 s2
          generalize h[k] = x at *
          generalize h[j] = y at *
          by_cases hp : precB x y = true
          · have HP := Lib.hid hp
            have HPA := Lib.hid (hpa.trans HP.out)
            clear hp hpa
            go_wp2
            refine region_left [.is (.slice (some ⟨b, off, none⟩) h.length cap), .is (.int .i64 k), .is (.pointer (some ⟨b, off + k * 6, none⟩)), .is (.agg #[.int .i64 (cliO x), .int .i64 (kindO x), .int .i64 (begO x), .int .i64 (endO x), .slice a4 (addO x).length c4, .slice a5 (seeO x).length c5]), .is (.slice (some ⟨b, off, none⟩) h.length cap), .is (.int .i64 j), .is (.pointer (some ⟨b, off + j * 6, none⟩)), .is (.agg #[.int .i64 (cliO y), .int .i64 (kindO y), .int .i64 (begO y), .int .i64 (endO y), .slice d4 (addO y).length k4, .slice d5 (seeO y).length k5]), .is (.bool true)] (by kernel_rfl) rfl (by kernel_rfl) (by kernel_rfl) (.cons ?q0 (.cons ?q1 (.cons ?q2 (.cons ?q3 (.cons ?q4 (.cons ?q5 (.cons ?q6 (.cons ?q7 (.cons ?q8 .nil))))))))) ?qfin
            case q0 =>
              intro wq hbw st  K hK
              have KQ := HOO.out.2.trans (hbw.mono HOO.out.2.size)
              simp only [Act.put, List.setIfInBounds_toArray, List.set_cons_zero, List.set_cons_succ] at hK ⊢
              unfold opStep
              rw [if_pos (by rfl)]
              go_simp
              exact hK.out _ _ (Below.refl _ _) rfl _ rfl
            case q1 =>
              intro wq hbw st  K hK
              have KQ := HOO.out.2.trans (hbw.mono HOO.out.2.size)
              simp only [Act.put, List.setIfInBounds_toArray, List.set_cons_zero, List.set_cons_succ] at hK ⊢
              unfold opStep
              rw [if_pos (by rfl)]
              go_simp
              exact hK.out _ _ (Below.refl _ _) rfl _ rfl
            case q2 =>
              intro wq hbw st  K hK
              have KQ := HOO.out.2.trans (hbw.mono HOO.out.2.size)
              simp only [Act.put, List.setIfInBounds_toArray, List.set_cons_zero, List.set_cons_succ] at hK ⊢
              unfold opStep
              rw [if_pos (by rfl)]
              go_simp
              exact hK.out _ _ (Below.refl _ _) rfl _ rfl
            case q3 =>
              intro wq hbw st  K hK
              have KQ := HOO.out.2.trans (hbw.mono HOO.out.2.size)
              simp only [Act.put, List.setIfInBounds_toArray, List.set_cons_zero, List.set_cons_succ] at hK ⊢
              unfold opStep
              rw [if_pos (by rfl)]
              have dd := Lib.hid (HN.out.1 wq KQ)
              have d0 := dd.out.1
              have d1 := dd.out.2.1
              have d2 := dd.out.2.2.1
              have d3 := dd.out.2.2.2.1
              have d4 := dd.out.2.2.2.2.1
              have d5 := dd.out.2.2.2.2.2
              go_simp
              exact hK.out _ _ (Below.refl _ _) rfl _ rfl
            case q4 =>
              intro wq hbw st  K hK
              have KQ := HOO.out.2.trans (hbw.mono HOO.out.2.size)
              simp only [Act.put, List.setIfInBounds_toArray, List.set_cons_zero, List.set_cons_succ] at hK ⊢
              unfold opStep
              rw [if_pos (by rfl)]
              go_simp
              exact hK.out _ _ (Below.refl _ _) rfl _ rfl
            case q5 =>
              intro wq hbw st  K hK
              have KQ := HOO.out.2.trans (hbw.mono HOO.out.2.size)
              simp only [Act.put, List.setIfInBounds_toArray, List.set_cons_zero, List.set_cons_succ] at hK ⊢
              unfold opStep
              rw [if_pos (by rfl)]
              go_simp
              exact hK.out _ _ (Below.refl _ _) rfl _ rfl
            case q6 =>
              intro wq hbw st  K hK
              have KQ := HOO.out.2.trans (hbw.mono HOO.out.2.size)
              simp only [Act.put, List.setIfInBounds_toArray, List.set_cons_zero, List.set_cons_succ] at hK ⊢
              unfold opStep
              rw [if_pos (by rfl)]
              go_simp
              exact hK.out _ _ (Below.refl _ _) rfl _ rfl
            case q7 =>
              intro wq hbw st  K hK
              have KQ := HOO.out.2.trans (hbw.mono HOO.out.2.size)
              simp only [Act.put, List.setIfInBounds_toArray, List.set_cons_zero, List.set_cons_succ] at hK ⊢
              unfold opStep
              rw [if_pos (by rfl)]
              have dd := Lib.hid (HN2.out.1 wq KQ)
              have d0 := dd.out.1
              have d1 := dd.out.2.1
              have d2 := dd.out.2.2.1
              have d3 := dd.out.2.2.2.1
              have d4 := dd.out.2.2.2.2.1
              have d5 := dd.out.2.2.2.2.2
              go_simp
              exact hK.out _ _ (Below.refl _ _) rfl _ rfl
            case q8 =>
              intro wq hbw st  K hK
              have KQ := HOO.out.2.trans (hbw.mono HOO.out.2.size)
              simp only [Act.put, List.setIfInBounds_toArray, List.set_cons_zero, List.set_cons_succ] at hK ⊢
              unfold opStep
              rw [if_pos (by rfl)]
              go_simp
              have hpc := prec_any _ _ x y wq ⟨_, _, rfl, HN.out.2.1.keep KQ, HN.out.2.2.keep KQ⟩ ⟨_, _, rfl, HN2.out.2.1.keep KQ, HN2.out.2.2.keep KQ⟩
              rw [HP.out] at hpc
              refine hpc.mono ?_
              rintro e wz ⟨rfl, hbz⟩
              go_simp
              exact hK.out _ _ hbz rfl _ rfl
            case qfin =>
              intro wq hbw
              try simp only [FinAll]
              simp only [Act.put, List.setIfInBounds_toArray, List.set_cons_zero, List.set_cons_succ]
              have KE := Lib.hid (And.intro (below_row HOO.out.1 hbw) (Below.trans HOO.out.2 (hbw.mono HOO.out.2.size)))
              clear hbw HOO
              generalize hL : ordL h k ++ rowL h k j = L at *
              have HLS : Hid (ordL h k ++ rowL h k (j + 1) = L ++ [(k, j)]) := Lib.hid (by rw [HYN.out.1 HPA.out, ← hL, List.append_assoc])
              clear hL
              go_wp2_with (at_builtin; refine wpList_append_own _ rfl _ _ 40 rfl W.heap.size 42 i0 _ 2 16 Try.underlying40 HI.out.1 HI.out.2.1 HI.out.2.2.1 HI.out.2.2.2 rfl (by decide) _ _ _ rfl (by exact KE.out.1.alloc _) ⟨wq.heap.size, 0, none⟩ 1 1 [.int .i64 k, .int .i64 j] rfl rfl ?qa ?qb (by unfold maxLen; omega) (by omega) (by have := KE.out.2.size; simp; omega) ?qc)
              case qa =>
                intro i u hu
                have hB := (Blk.new wq 42 #[.int .i64 k, .int .i64 j]).cell i
                have hu2 : (#[Value.int .i64 (k : Int), Value.int .i64 (j : Int)] : Array Value)[i]? = some u := by simpa using hu
                rw [← hu2, ← hB]
                by_cases h0 : i = 0 <;> simp [Addr.add, h0]
              case qb => intro u hu; simp at hu; rcases hu with rfl | rfl <;> rfl
              intro v5 w5 hown5 hgr5 _
              have H5 : Hid (w5.ownsRow W.heap.size 42 2 v5 (L ++ [(k, j)]).length (prC (L ++ [(k, j)])) ∧ Below W.heap.size W w5) := Lib.hid ⟨by rw [List.length_append, prC_snoc]; exact hown5, below_row_grown KE.out.2 ((Below.refl _ _).alloc (Nat.le_refl _) _) KE.out.1 hgr5⟩
              clear hown5 hgr5
              go_wp2
              go_roundg (h.length - (j + 1))
              case measure => have := HM2.out; omega
              case rel => exact ⟨j + 1, by omega, by go_num, by rw [HLS.out]; exact H5.out.1, H5.out.2⟩
          · have HP := Lib.hid (Bool.eq_false_iff.2 hp)
            have HPA := Lib.hid (hpa.trans HP.out)
            clear hp hpa
            go_wp2
            refine region_left [.is (.slice (some ⟨b, off, none⟩) h.length cap), .is (.int .i64 k), .is (.pointer (some ⟨b, off + k * 6, none⟩)), .is (.agg #[.int .i64 (cliO x), .int .i64 (kindO x), .int .i64 (begO x), .int .i64 (endO x), .slice a4 (addO x).length c4, .slice a5 (seeO x).length c5]), .is (.slice (some ⟨b, off, none⟩) h.length cap), .is (.int .i64 j), .is (.pointer (some ⟨b, off + j * 6, none⟩)), .is (.agg #[.int .i64 (cliO y), .int .i64 (kindO y), .int .i64 (begO y), .int .i64 (endO y), .slice d4 (addO y).length k4, .slice d5 (seeO y).length k5]), .is (.bool false)] (by kernel_rfl) rfl (by kernel_rfl) (by kernel_rfl) (.cons ?q0 (.cons ?q1 (.cons ?q2 (.cons ?q3 (.cons ?q4 (.cons ?q5 (.cons ?q6 (.cons ?q7 (.cons ?q8 .nil))))))))) ?qfin
            case q0 =>
              intro wq hbw st  K hK
              have KQ := HOO.out.2.trans (hbw.mono HOO.out.2.size)
              simp only [Act.put, List.setIfInBounds_toArray, List.set_cons_zero, List.set_cons_succ] at hK ⊢
              unfold opStep
              rw [if_pos (by rfl)]
              go_simp
              exact hK.out _ _ (Below.refl _ _) rfl _ rfl
            case q1 =>
              intro wq hbw st  K hK
              have KQ := HOO.out.2.trans (hbw.mono HOO.out.2.size)
              simp only [Act.put, List.setIfInBounds_toArray, List.set_cons_zero, List.set_cons_succ] at hK ⊢
              unfold opStep
              rw [if_pos (by rfl)]
              go_simp
              exact hK.out _ _ (Below.refl _ _) rfl _ rfl
            case q2 =>
              intro wq hbw st  K hK
              have KQ := HOO.out.2.trans (hbw.mono HOO.out.2.size)
              simp only [Act.put, List.setIfInBounds_toArray, List.set_cons_zero, List.set_cons_succ] at hK ⊢
              unfold opStep
              rw [if_pos (by rfl)]
              go_simp
              exact hK.out _ _ (Below.refl _ _) rfl _ rfl
            case q3 =>
              intro wq hbw st  K hK
              have KQ := HOO.out.2.trans (hbw.mono HOO.out.2.size)
              simp only [Act.put, List.setIfInBounds_toArray, List.set_cons_zero, List.set_cons_succ] at hK ⊢
              unfold opStep
              rw [if_pos (by rfl)]
              have dd := Lib.hid (HN.out.1 wq KQ)
              have d0 := dd.out.1
              have d1 := dd.out.2.1
              have d2 := dd.out.2.2.1
              have d3 := dd.out.2.2.2.1
              have d4 := dd.out.2.2.2.2.1
              have d5 := dd.out.2.2.2.2.2
              go_simp
              exact hK.out _ _ (Below.refl _ _) rfl _ rfl
            case q4 =>
              intro wq hbw st  K hK
              have KQ := HOO.out.2.trans (hbw.mono HOO.out.2.size)
              simp only [Act.put, List.setIfInBounds_toArray, List.set_cons_zero, List.set_cons_succ] at hK ⊢
              unfold opStep
              rw [if_pos (by rfl)]
              go_simp
              exact hK.out _ _ (Below.refl _ _) rfl _ rfl
            case q5 =>
              intro wq hbw st  K hK
              have KQ := HOO.out.2.trans (hbw.mono HOO.out.2.size)
              simp only [Act.put, List.setIfInBounds_toArray, List.set_cons_zero, List.set_cons_succ] at hK ⊢
              unfold opStep
              rw [if_pos (by rfl)]
              go_simp
              exact hK.out _ _ (Below.refl _ _) rfl _ rfl
            case q6 =>
              intro wq hbw st  K hK
              have KQ := HOO.out.2.trans (hbw.mono HOO.out.2.size)
              simp only [Act.put, List.setIfInBounds_toArray, List.set_cons_zero, List.set_cons_succ] at hK ⊢
              unfold opStep
              rw [if_pos (by rfl)]
              go_simp
              exact hK.out _ _ (Below.refl _ _) rfl _ rfl
            case q7 =>
              intro wq hbw st  K hK
              have KQ := HOO.out.2.trans (hbw.mono HOO.out.2.size)
              simp only [Act.put, List.setIfInBounds_toArray, List.set_cons_zero, List.set_cons_succ] at hK ⊢
              unfold opStep
              rw [if_pos (by rfl)]
              have dd := Lib.hid (HN2.out.1 wq KQ)
              have d0 := dd.out.1
              have d1 := dd.out.2.1
              have d2 := dd.out.2.2.1
              have d3 := dd.out.2.2.2.1
              have d4 := dd.out.2.2.2.2.1
              have d5 := dd.out.2.2.2.2.2
              go_simp
              exact hK.out _ _ (Below.refl _ _) rfl _ rfl
            case q8 =>
              intro wq hbw st  K hK
              have KQ := HOO.out.2.trans (hbw.mono HOO.out.2.size)
              simp only [Act.put, List.setIfInBounds_toArray, List.set_cons_zero, List.set_cons_succ] at hK ⊢
              unfold opStep
              rw [if_pos (by rfl)]
              go_simp
              have hpc := prec_any _ _ x y wq ⟨_, _, rfl, HN.out.2.1.keep KQ, HN.out.2.2.keep KQ⟩ ⟨_, _, rfl, HN2.out.2.1.keep KQ, HN2.out.2.2.keep KQ⟩
              rw [HP.out] at hpc
              refine hpc.mono ?_
              rintro e wz ⟨rfl, hbz⟩
              go_simp
              exact hK.out _ _ hbz rfl _ rfl
            case qfin =>
              intro wq hbw
              try simp only [FinAll]
              simp only [Act.put, List.setIfInBounds_toArray, List.set_cons_zero, List.set_cons_succ]
              have KE := Lib.hid (And.intro (below_row HOO.out.1 hbw) (Below.trans HOO.out.2 (hbw.mono HOO.out.2.size)))
              have HLS := Lib.hid (HYN.out.2 HPA.out)
              clear hbw HOO
              go_wp2
              go_roundg (h.length - (j + 1))
              case measure => have := HM2.out; omega
              case rel => exact ⟨j + 1, by omega, by go_num, by rw [HLS.out]; exact KE.out.1, KE.out.2⟩
        · have hjj : j = h.length := by omega
          subst hjj
          go_wp2
          go_roundg (h.length - (k + 1))
          case measure => have := HM.out; omega
          case rel => exact ⟨k + 1, by omega, by go_num, by rw [HSU.out]; exact HOO.out.1, HOO.out.2⟩
    · have hkk : k = h.length := by omega
      subst hkk
      go_wp2
      go_ret
      exact ⟨_, rfl, ownsRow_base HOO.out.1 (Nat.zero_le _), HOO.out.2⟩
end Go.Proofs.Ytnpfalloelmflaa
