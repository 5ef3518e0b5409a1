/-
  Chapter 54: Same of the reference.
-/
import Derived.Test.YtnpfalloelmflaaHr
import Derived.Test.YtnpfalloelmflaaRv
namespace Go.Proofs.Ytnpfalloelmflaa
open Go.RowKit

/-- Two operations are copied into two new blocks, in whatever order. -/
def zeroO : Array Value := #[.int .i64 0, .int .i64 0, .int .i64 0, .int .i64 0, .slice none 0 0, .slice none 0 0]
def TwoAt (n0 : Nat) (p q : Value) (X Y : Array Value) (w : World) : Prop := ∃ g e : Nat, p = .pointer (some ⟨g, 0, none⟩) ∧ q = .pointer (some ⟨e, 0, none⟩) ∧ n0 ≤ g ∧ n0 ≤ e ∧ Blk w g 31 X ∧ Blk w e 31 Y
def JS (n0 : Nat) (X Y : Array Value) : Inv := fun D st w => (D 10 = true → D 8 = true) ∧ (D 11 = true → D 9 = true) ∧
  (D 8 = true → ∃ g : Nat, st 8 = .pointer (some ⟨g, 0, none⟩) ∧ n0 ≤ g ∧ Blk w g 31 (if D 10 = true then X else zeroO)) ∧
  (D 9 = true → ∃ g : Nat, st 9 = .pointer (some ⟨g, 0, none⟩) ∧ n0 ≤ g ∧ Blk w g 31 (if D 11 = true then Y else zeroO)) ∧ (D 8 = true → D 9 = true → st 8 ≠ st 9)
section
variable {n0 : Nat} {X Y : Array Value} {D : Nat → Bool} {st : Nat → Value} {w w' : World}
theorem JS.start (n0 : Nat) (X Y : Array Value) (st : Nat → Value) (w : World) : JS n0 X Y (fun _ => false) st w := ⟨(fun h => by cases h), (fun h => by cases h), (fun h => by cases h), (fun h => by cases h), (fun h => by cases h)⟩
theorem JS.pure (h : JS n0 X Y D st w) (i : Nat) (v : Value) (h8 : i ≠ 8) (h9 : i ≠ 9) (h10 : i ≠ 10) (h11 : i ≠ 11) : JS n0 X Y (upD D i) (upV st i v) w := by
  unfold JS at *
  simp only [upD, upV, Ne.symm h8, Ne.symm h9, Ne.symm h10, Ne.symm h11, if_false]
  exact h
theorem JS.a8 (h : JS n0 X Y D st w) (hD : D 8 = false) (hn : n0 ≤ w.heap.size) : JS n0 X Y (upD D 8) (upV st 8 (.pointer (some ⟨w.heap.size, 0, none⟩))) (w.alloc (.cells zeroO 31)) := by
  obtain ⟨h1, h2, h3, h4, h5⟩ := h
  have d10 : D 10 = false := by
    cases e : D 10 with
    | false => rfl
    | true => rw [h1 e] at hD; cases hD
  unfold JS
  simp only [upD, upV, if_true, show ((10 : Nat) = 8) = False by simp, show ((11 : Nat) = 8) = False by simp, show ((9 : Nat) = 8) = False by simp, if_false, d10]
  refine ⟨(fun e => by cases e), h2, fun _ => ⟨_, rfl, hn, by simpa using Blk.new w _ _⟩, fun e => ?_, fun _ e he => ?_⟩
  · obtain ⟨g, a, b, c⟩ := h4 e
    exact ⟨g, a, b, c.alloc _⟩
  · obtain ⟨g, a, b, c⟩ := h4 e
    rw [a] at he
    injection he with he
    injection he with he
    injection he with he
    have := c.lt
    omega
theorem JS.a9 (h : JS n0 X Y D st w) (hD : D 9 = false) (hn : n0 ≤ w.heap.size) : JS n0 X Y (upD D 9) (upV st 9 (.pointer (some ⟨w.heap.size, 0, none⟩))) (w.alloc (.cells zeroO 31)) := by
  obtain ⟨h1, h2, h3, h4, h5⟩ := h
  have d11 : D 11 = false := by
    cases e : D 11 with
    | false => rfl
    | true => rw [h2 e] at hD; cases hD
  unfold JS
  simp only [upD, upV, if_true, show ((10 : Nat) = 9) = False by simp, show ((11 : Nat) = 9) = False by simp, show ((8 : Nat) = 9) = False by simp, if_false, d11]
  refine ⟨h1, (fun e => by cases e), fun e => ?_, fun _ => ⟨_, rfl, hn, by simpa using Blk.new w _ _⟩, fun e _ he => ?_⟩
  · obtain ⟨g, a, b, c⟩ := h3 e
    exact ⟨g, a, b, c.alloc _⟩
  · obtain ⟨g, a, b, c⟩ := h3 e
    rw [a] at he
    injection he with he
    injection he with he
    injection he with he
    have := c.lt
    omega
theorem JS.s10 (h : JS n0 X Y D st w) (_ : D 10 = false) (d8 : D 8 = true) {g : Nat} (hg : st 8 = .pointer (some ⟨g, 0, none⟩)) (hX : Blk w' g 31 X) (hk : ∀ g' t' cs', g' ≠ g → Blk w g' t' cs' → Blk w' g' t' cs') :
    JS n0 X Y (upD D 10) (upV st 10 undef) w' := by
  obtain ⟨h1, h2, h3, h4, h5⟩ := h
  unfold JS
  simp only [upD, upV, if_true, show ((8 : Nat) = 10) = False by simp, show ((11 : Nat) = 10) = False by simp, show ((9 : Nat) = 10) = False by simp, if_false]
  refine ⟨fun _ => d8, h2, fun _ => ?_, fun e => ?_, h5⟩
  · obtain ⟨g', a, b, c⟩ := h3 d8
    exact ⟨g, hg, by rw [hg] at a; injection a with a; injection a with a; injection a with a; omega, hX⟩
  · obtain ⟨g', a, b, c⟩ := h4 e
    refine ⟨g', a, b, hk _ _ _ ?_ c⟩
    rintro rfl
    exact h5 d8 e (hg.trans a.symm)
theorem JS.s11 (h : JS n0 X Y D st w) (_ : D 11 = false) (d9 : D 9 = true) {g : Nat} (hg : st 9 = .pointer (some ⟨g, 0, none⟩)) (hX : Blk w' g 31 Y) (hk : ∀ g' t' cs', g' ≠ g → Blk w g' t' cs' → Blk w' g' t' cs') :
    JS n0 X Y (upD D 11) (upV st 11 undef) w' := by
  obtain ⟨h1, h2, h3, h4, h5⟩ := h
  unfold JS
  simp only [upD, upV, if_true, show ((8 : Nat) = 11) = False by simp, show ((10 : Nat) = 11) = False by simp, show ((9 : Nat) = 11) = False by simp, if_false]
  refine ⟨h1, fun _ => d9, fun e => ?_, fun _ => ?_, h5⟩
  · obtain ⟨g', a, b, c⟩ := h3 e
    refine ⟨g', a, b, hk _ _ _ ?_ c⟩
    rintro rfl
    exact h5 e d9 (a.trans hg.symm)
  · obtain ⟨g', a, b, c⟩ := h4 d9
    exact ⟨g, hg, by rw [hg] at a; injection a with a; injection a with a; injection a with a; omega, hX⟩
theorem JS.fin (h : JS n0 X Y D st w) (d : ∀ j, j < 12 → D j = true) : TwoAt n0 (st 8) (st 9) X Y w := by
  obtain ⟨h1, h2, h3, h4, h5⟩ := h
  obtain ⟨g, a, b, c⟩ := h3 (d 8 (by omega))
  obtain ⟨e, a', b', c'⟩ := h4 (d 9 (by omega))
  rw [if_pos (d 10 (by omega))] at c
  rw [if_pos (d 11 (by omega))] at c'
  exact ⟨g, e, a, a', b, b', c, c'⟩
theorem TwoAt.on {p q : Value} (h : TwoAt n0 p q X Y w) (hb : Below w.heap.size w w') : TwoAt n0 p q X Y w' := by
  obtain ⟨g, e, a, b, c, d, f, k⟩ := h
  exact ⟨g, e, a, b, c, d, f.on hb, k.on hb⟩
end
noncomputable def eqO (h M : List Opn) : Bool := @decide (h = M) (Classical.propDecidable _)
theorem eqO_yes {h M : List Opn} (e : h = M) : eqO h M = true := @decide_eq_true _ (Classical.propDecidable _) e
theorem eqO_no {h M : List Opn} (e : ¬ h = M) : eqO h M = false := @decide_eq_false _ (Classical.propDecidable _) e
theorem op_ext {x y : Opn} (h0 : cliO x = cliO y) (h1 : kindO x = kindO y) (h2 : begO x = begO y) (h3 : endO x = endO y) (h4 : addO x = addO y) (h5 : seeO x = seeO y) : x = y := by
  obtain ⟨a, b, c, d, e, f⟩ := x
  obtain ⟨a', b', c', d', e', f'⟩ := y
  simp only [cliO, kindO, begO, endO, addO, seeO] at h0 h1 h2 h3 h4 h5
  rw [h0, h1, h2, h3, h4, h5]

set_option maxRecDepth 100000 in
set_option maxHeartbeats 8000000 in
theorem rsame54_any (v u : Value) (h M : List Opn) (W : World) (hr : ReadsO W v h) (hs : ReadsO W u M) : Calls Try.prog 17 #[v, u] W (BoolMade W (eqO h M)) := by
  have HR := Lib.hid hr
  have HS := Lib.hid hs
  obtain ⟨ao, cap, rfl, hl, hm, -, -⟩ := hr
  obtain ⟨ao2, cap2, rfl, hl2, hm2, -, -⟩ := hs
  unfold maxLen at hm hm2
  by_cases hnm : h.length = M.length
  · have HNM := Lib.hid hnm
    rw [← hnm] at hl2 ⊢
    clear hnm
    go_enter Try.func17, Try.ntmps17
    go_wp2
    go_loopg [5] h.length (fun m i wr => ∃ k : Nat, m + k = h.length ∧ i = .int .i64 k ∧ h.take k = M.take k ∧ Below W.heap.size W wr)
    case atStart => exact ⟨0, by omega, rfl, by simp, Below.refl _ _⟩
    case round =>
      obtain ⟨k, hmk, rfl, hp, hbel⟩ := hrel
      have HM := Lib.hid hmk
      have HP := Lib.hid hp
      have KW := Lib.hid hbel
      have hk : k ≤ h.length := by omega
      clear hmk hp hbel
      by_cases hlt : k < h.length
      · have hlt' : k < M.length := by rw [← HNM.out]; exact hlt
        obtain ⟨b, off, cap1, a4, c4, a5, c5, hv, _, _, hm4, hm5, hl4, hl5, hcell, r1, r2⟩ := HR.out.at2 hlt
        injection hv with e1 e2 e3
        subst e1
        obtain ⟨b', off', cap1', d4, k4, d5, k5, hv, _, _, n4, n5, l4, l5, hcell', s1, s2⟩ := HS.out.at2 hlt'
        injection hv with e4 e5 e6
        subst e4
        have hki : (k : Int) < h.length := by omega
        have hk0 : (0 : Int) ≤ (k : Int) := by omega
        have HN := Lib.hid (And.intro hcell (And.intro r1 r2))
        have HN2 := Lib.hid (And.intro hcell' (And.intro s1 s2))
        have HEQ : Hid (h[k] = M[k] → h.take (k + 1) = M.take (k + 1)) := Lib.hid fun e => by rw [List.take_succ_eq_append_getElem hlt, List.take_succ_eq_append_getElem hlt', HP.out, e]
        have HNE : Hid (¬ h[k] = M[k] → eqO h M = false) := Lib.hid fun e => eqO_no fun e2 => by subst e2; exact e rfl
        clear e2 e3 e5 e6 hcell r1 r2 hcell' s1 s2
        generalize h[k] = x at *
        generalize M[k] = y at *
        clear hlt'
        go_wp2_with fail
        refine region_inv wr.heap.size (JS wr.heap.size #[.int .i64 (cliO x), .int .i64 (kindO x), .int .i64 (begO x), .int .i64 (endO x), .slice a4 (addO x).length c4, .slice a5 (seeO x).length c5] #[.int .i64 (cliO y), .int .i64 (kindO y), .int .i64 (begO y), .int .i64 (endO y), .slice d4 (addO y).length k4, .slice d5 (seeO y).length k5]) [some (.slice (some ⟨b, off, none⟩) h.length cap), some (.int .i64 (k : Int)), some (.pointer (some ⟨b, off + k * 6, none⟩)), some (.agg #[.int .i64 (cliO x), .int .i64 (kindO x), .int .i64 (begO x), .int .i64 (endO x), .slice a4 (addO x).length c4, .slice a5 (seeO x).length c5]), some (.slice (some ⟨b', off', none⟩) h.length cap2), some (.int .i64 (k : Int)), some (.pointer (some ⟨b', off' + k * 6, none⟩)), some (.agg #[.int .i64 (cliO y), .int .i64 (kindO y), .int .i64 (begO y), .int .i64 (endO y), .slice d4 (addO y).length k4, .slice d5 (seeO y).length k5]), none, none, some undef, some undef] (by kernel_rfl) rfl (by kernel_rfl) (by kernel_rfl) (fun st => JS.start _ _ _ st _) (.cons ?q1_0 (.cons ?q1_1 (.cons ?q1_2 (.cons ?q1_3 (.cons ?q1_4 (.cons ?q1_5 (.cons ?q1_6 (.cons ?q1_7 (.cons ?q1_8 (.cons ?q1_9 (.cons ?q1_10 (.cons ?q1_11 .nil)))))))))))) ?q1_fin
        case q1_0 =>
          intro wq hbw D st hJ hD hdp K hK
          have KQ := KW.out.trans (hbw.mono KW.out.size)
          simp only [Act.put, List.setIfInBounds_toArray, List.set_cons_zero, List.set_cons_succ] at hK ⊢
          unfold opStep
          rw [if_pos (by rfl)]
          go_simp
          exact hK.out _ _ (Below.refl _ _) (fun u hu => Option.some.inj hu) (hJ.pure 0 _ (by decide) (by decide) (by decide) (by decide)) _ rfl
        case q1_1 =>
          intro wq hbw D st hJ hD hdp K hK
          have KQ := KW.out.trans (hbw.mono KW.out.size)
          simp only [Act.put, List.setIfInBounds_toArray, List.set_cons_zero, List.set_cons_succ] at hK ⊢
          unfold opStep
          rw [if_pos (by rfl)]
          go_simp
          exact hK.out _ _ (Below.refl _ _) (fun u hu => Option.some.inj hu) (hJ.pure 1 _ (by decide) (by decide) (by decide) (by decide)) _ rfl
        case q1_2 =>
          intro wq hbw D st hJ hD hdp K hK
          have KQ := KW.out.trans (hbw.mono KW.out.size)
          simp only [Act.put, List.setIfInBounds_toArray, List.set_cons_zero, List.set_cons_succ] at hK ⊢
          unfold opStep
          rw [if_pos (by rfl)]
          go_simp
          exact hK.out _ _ (Below.refl _ _) (fun u hu => Option.some.inj hu) (hJ.pure 2 _ (by decide) (by decide) (by decide) (by decide)) _ rfl
        case q1_3 =>
          intro wq hbw D st hJ hD hdp K hK
          have KQ := KW.out.trans (hbw.mono KW.out.size)
          simp only [Act.put, List.setIfInBounds_toArray, List.set_cons_zero, List.set_cons_succ] at hK ⊢
          unfold opStep
          rw [if_pos (by rfl)]
          have dd := Lib.hid (HN.out.1 wq KQ)
          have d0 := dd.out.1
          have d1 := dd.out.2.1
          have d2 := dd.out.2.2.1
          have d3 := dd.out.2.2.2.1
          have d4 := dd.out.2.2.2.2.1
          have d5 := dd.out.2.2.2.2.2
          go_simp
          exact hK.out _ _ (Below.refl _ _) (fun u hu => Option.some.inj hu) (hJ.pure 3 _ (by decide) (by decide) (by decide) (by decide)) _ rfl
        case q1_4 =>
          intro wq hbw D st hJ hD hdp K hK
          have KQ := KW.out.trans (hbw.mono KW.out.size)
          simp only [Act.put, List.setIfInBounds_toArray, List.set_cons_zero, List.set_cons_succ] at hK ⊢
          unfold opStep
          rw [if_pos (by rfl)]
          go_simp
          exact hK.out _ _ (Below.refl _ _) (fun u hu => Option.some.inj hu) (hJ.pure 4 _ (by decide) (by decide) (by decide) (by decide)) _ rfl
        case q1_5 =>
          intro wq hbw D st hJ hD hdp K hK
          have KQ := KW.out.trans (hbw.mono KW.out.size)
          simp only [Act.put, List.setIfInBounds_toArray, List.set_cons_zero, List.set_cons_succ] at hK ⊢
          unfold opStep
          rw [if_pos (by rfl)]
          go_simp
          exact hK.out _ _ (Below.refl _ _) (fun u hu => Option.some.inj hu) (hJ.pure 5 _ (by decide) (by decide) (by decide) (by decide)) _ rfl
        case q1_6 =>
          intro wq hbw D st hJ hD hdp K hK
          have KQ := KW.out.trans (hbw.mono KW.out.size)
          simp only [Act.put, List.setIfInBounds_toArray, List.set_cons_zero, List.set_cons_succ] at hK ⊢
          unfold opStep
          rw [if_pos (by rfl)]
          go_simp
          exact hK.out _ _ (Below.refl _ _) (fun u hu => Option.some.inj hu) (hJ.pure 6 _ (by decide) (by decide) (by decide) (by decide)) _ rfl
        case q1_7 =>
          intro wq hbw D st hJ hD hdp K hK
          have KQ := KW.out.trans (hbw.mono KW.out.size)
          simp only [Act.put, List.setIfInBounds_toArray, List.set_cons_zero, List.set_cons_succ] at hK ⊢
          unfold opStep
          rw [if_pos (by rfl)]
          have dd := Lib.hid (HN2.out.1 wq KQ)
          have d0 := dd.out.1
          have d1 := dd.out.2.1
          have d2 := dd.out.2.2.1
          have d3 := dd.out.2.2.2.1
          have d4 := dd.out.2.2.2.2.1
          have d5 := dd.out.2.2.2.2.2
          go_simp
          exact hK.out _ _ (Below.refl _ _) (fun u hu => Option.some.inj hu) (hJ.pure 7 _ (by decide) (by decide) (by decide) (by decide)) _ rfl
        case q1_8 =>
          intro wq hbw D st hJ hD hdp K hK
          have KQ := KW.out.trans (hbw.mono KW.out.size)
          simp only [Act.put, List.setIfInBounds_toArray, List.set_cons_zero, List.set_cons_succ] at hK ⊢
          unfold opStep
          rw [if_pos (by rfl)]
          go_simp
          exact hK.out _ _ ((Below.refl _ _).alloc hbw.size _) (fun u hu => by cases hu) (hJ.a8 hD hbw.size) _ rfl
        case q1_9 =>
          intro wq hbw D st hJ hD hdp K hK
          have KQ := KW.out.trans (hbw.mono KW.out.size)
          simp only [Act.put, List.setIfInBounds_toArray, List.set_cons_zero, List.set_cons_succ] at hK ⊢
          unfold opStep
          rw [if_pos (by rfl)]
          go_simp
          exact hK.out _ _ ((Below.refl _ _).alloc hbw.size _) (fun u hu => by cases hu) (hJ.a9 hD hbw.size) _ rfl
        case q1_10 =>
          intro wq hbw D st hJ hD hdp K hK
          have KQ := KW.out.trans (hbw.mono KW.out.size)
          simp only [Act.put, List.setIfInBounds_toArray, List.set_cons_zero, List.set_cons_succ] at hK ⊢
          unfold opStep
          rw [if_pos (by rfl)]
          have d8 := hdp 8 (of_decide_eq_true (by kernel_rfl))
          obtain ⟨g, hg, hgn, hB⟩ := hJ.2.2.1 d8
          rw [hg] at hK ⊢
          rw [hD] at hB
          simp only [Bool.false_eq_true, if_false] at hB
          refine wp_store_blk 31 (.tmp 6) (.tmp 22) rfl g 31 zeroO #[.int .i64 (cliO x), .int .i64 (kindO x), .int .i64 (begO x), .int .i64 (endO x), .slice a4 (addO x).length c4, .slice a5 (seeO x).length c5] rfl rfl hB op_info rfl (by rw [Array.all_eq_true_iff_forall_mem]; intro u hu; simp only [List.mem_toArray, List.mem_cons, List.not_mem_nil, or_false] at hu; rcases hu with rfl | rfl | rfl | rfl | rfl | rfl <;> rfl) ?_
          intro w' k1 k2 k3 k4
          exact hK.out _ _ (k3 _ _ hgn (Below.refl _ _)) (fun u hu => Option.some.inj hu) (hJ.s10 hD d8 hg k1 k4) _ rfl
        case q1_11 =>
          intro wq hbw D st hJ hD hdp K hK
          have KQ := KW.out.trans (hbw.mono KW.out.size)
          simp only [Act.put, List.setIfInBounds_toArray, List.set_cons_zero, List.set_cons_succ] at hK ⊢
          unfold opStep
          rw [if_pos (by rfl)]
          have d8 := hdp 9 (of_decide_eq_true (by kernel_rfl))
          obtain ⟨g, hg, hgn, hB⟩ := hJ.2.2.2.1 d8
          rw [hg] at hK ⊢
          rw [hD] at hB
          simp only [Bool.false_eq_true, if_false] at hB
          refine wp_store_blk 31 (.tmp 7) (.tmp 26) rfl g 31 zeroO #[.int .i64 (cliO y), .int .i64 (kindO y), .int .i64 (begO y), .int .i64 (endO y), .slice d4 (addO y).length k4, .slice d5 (seeO y).length k5] rfl rfl hB op_info rfl (by rw [Array.all_eq_true_iff_forall_mem]; intro u hu; simp only [List.mem_toArray, List.mem_cons, List.not_mem_nil, or_false] at hu; rcases hu with rfl | rfl | rfl | rfl | rfl | rfl <;> rfl) ?_
          intro w' k1 k2 k3 k4
          exact hK.out _ _ (k3 _ _ hgn (Below.refl _ _)) (fun u hu => Option.some.inj hu) (hJ.s11 hD d8 hg k1 k4) _ rfl
        case q1_fin =>
          intro wq hbw D st hall hJ
          simp only [FinAll, lfOf]
          simp only [Act.put, List.setIfInBounds_toArray, List.set_cons_zero, List.set_cons_succ]
          have H2 := Lib.hid (hJ.fin fun j hj => hall j (by simpa using hj))
          clear hJ hall
          generalize st 8 = p at *
          generalize st 9 = q at *
          clear st D
          obtain ⟨g, e, rfl, rfl, hgn, hen, hB1, hB2⟩ := H2.out
          have HB1 := Lib.hid hB1
          have HB2 := Lib.hid hB2
          replace KW := Lib.hid (KW.out.trans (hbw.mono KW.out.size))
          obtain ⟨x0, x1, x2, x3, x4, x5, xlt⟩ := blk6 hB1
          obtain ⟨y0, y1, y2, y3, y4, y5, ylt⟩ := blk6 hB2
          clear hB1 hB2 H2 hbw hgn hen
          by_cases b0 : cliO x = cliO y
          rotate_left
          · skip
            have HD : Hid (¬ x = y) := Lib.hid fun e0 => b0 (by rw [e0])
            have t0 := bne_t b0
            clear b0
            go_wp2
            go_ret
            exact ⟨ret_bool (HNE.out HD.out).symm, KW.out⟩
          have tb0 := bne_f b0
          have Eb0 := Lib.hid b0
          clear b0
          by_cases b1 : kindO x = kindO y
          rotate_left
          · skip
            have HD : Hid (¬ x = y) := Lib.hid fun e0 => b1 (by rw [e0])
            have t0 := bne_t b1
            clear b1
            go_wp2
            go_ret
            exact ⟨ret_bool (HNE.out HD.out).symm, KW.out⟩
          have tb1 := bne_f b1
          have Eb1 := Lib.hid b1
          clear b1
          by_cases b2 : begO x = begO y
          rotate_left
          · skip
            have HD : Hid (¬ x = y) := Lib.hid fun e0 => b2 (by rw [e0])
            have t0 := bne_t b2
            clear b2
            go_wp2
            go_ret
            exact ⟨ret_bool (HNE.out HD.out).symm, KW.out⟩
          have tb2 := bne_f b2
          have Eb2 := Lib.hid b2
          clear b2
          by_cases b3 : endO x = endO y
          rotate_left
          · skip
            have HD : Hid (¬ x = y) := Lib.hid fun e0 => b3 (by rw [e0])
            have t0 := bne_t b3
            clear b3
            go_wp2
            go_ret
            exact ⟨ret_bool (HNE.out HD.out).symm, KW.out⟩
          have tb3 := bne_f b3
          have Eb3 := Lib.hid b3
          clear b3
          go_wp2_with fail
          refine (rsame_any _ _ (addO x) (addO y) _ (HN.out.2.1.keep KW.out) (HN2.out.2.1.keep KW.out)).mono ?_
          rintro e w2 ⟨rfl, hd⟩
          have HD0 := Lib.hid (hd.below (B := wq.heap.size))
          have KW2 := Lib.hid (KW.out.trans (HD0.out.mono KW.out.size))
          have HA := Lib.hid (HB1.out.on HD0.out)
          have HB := Lib.hid (HB2.out.on HD0.out)
          clear hd x0 x1 x2 x3 x4 x5 y0 y1 y2 y3 y4 y5
          obtain ⟨x0, x1, x2, x3, x4, x5, xlt2⟩ := blk6 HA.out
          obtain ⟨y0, y1, y2, y3, y4, y5, ylt2⟩ := blk6 HB.out
          by_cases b4 : addO x = addO y
          rotate_left
          · skip
            have HD : Hid (¬ x = y) := Lib.hid fun e0 => b4 (by rw [e0])
            rw [decide_eq_false b4]
            clear b4
            go_wp2
            go_ret
            exact ⟨ret_bool (HNE.out HD.out).symm, KW2.out⟩
          rw [decide_eq_true b4]
          have Eb4 := Lib.hid b4
          clear b4
          go_wp2_with fail
          refine (rsame_any _ _ (seeO x) (seeO y) _ (HN.out.2.2.keep KW2.out) (HN2.out.2.2.keep KW2.out)).mono ?_
          rintro e w3 ⟨rfl, hd⟩
          have KW3 := Lib.hid (KW2.out.trans ((hd.below (B := w2.heap.size)).mono KW2.out.size))
          clear hd x0 x1 x2 x3 x4 x5 y0 y1 y2 y3 y4 y5
          by_cases b5 : seeO x = seeO y
          rotate_left
          · skip
            have HD : Hid (¬ x = y) := Lib.hid fun e0 => b5 (by rw [e0])
            rw [decide_eq_false b5]
            clear b5
            go_wp2
            go_ret
            exact ⟨ret_bool (HNE.out HD.out).symm, KW3.out⟩
          rw [decide_eq_true b5]
          have HXY : Hid (x = y) := Lib.hid (op_ext Eb0.out Eb1.out Eb2.out Eb3.out Eb4.out b5)
          clear b5
          go_wp2
          go_roundg (h.length - (k + 1))
          case measure => have := HM.out; omega
          case rel => exact ⟨k + 1, by omega, by go_num, HEQ.out HXY.out, KW3.out⟩
      · have HFI : Hid (eqO h M = true) := Lib.hid (eqO_yes (by have h0 := HP.out; rwa [List.take_of_length_le (by omega), List.take_of_length_le (by rw [← HNM.out]; omega)] at h0))
        go_wp2
        go_ret
        exact ⟨ret_bool HFI.out.symm, KW.out⟩
  · have hli : ¬ (h.length : Int) = M.length := by omega
    have e1 := bne_t hli
    have HL1 : Hid (eqO h M = false) := Lib.hid (eqO_no fun e => hnm (by rw [e]))
    clear hnm hli
    go_enter Try.func17, Try.ntmps17
    go_wp2
    go_ret
    exact ⟨ret_bool HL1.out.symm, Below.refl _ _⟩
  end Go.Proofs.Ytnpfalloelmflaa
