/-
  Chapter 29: the reference: Same, Dependent, SameTrace.
-/
import Derived.Test.YtfdicndmebhmdaaEj
namespace Go.Proofs.Ytfdicndmebhmdaa
open Go.RowKit
theorem depE_yes {a b : Ev} (h : a.1 = b.1 ∨ ∃ i k, ∃ (hi : i < a.2.length) (hk : k < b.2.length), a.2[i] = b.2[k]) : depE a b = true := by
  unfold depE
  rcases h with h | ⟨i, k, hi, hk, h⟩
  · simp [h]
  · simp only [Bool.or_eq_true, List.any_eq_true, decide_eq_true_eq]
    exact .inr ⟨a.2[i], List.getElem_mem hi, by rw [h]; exact List.getElem_mem hk⟩
theorem depE_no {a b : Ev} (h1 : ¬ a.1 = b.1) (h2 : ∀ i k (hi : i < a.2.length) (hk : k < b.2.length), ¬ a.2[i] = b.2[k]) : depE a b = false := by
  rw [← Bool.not_eq_true]
  unfold depE
  simp only [Bool.or_eq_true, List.any_eq_true, decide_eq_true_eq]
  rintro (h | ⟨x, hx, hy⟩)
  · exact h1 (by simpa using h)
  · obtain ⟨i, hi, rfl⟩ := List.getElem_of_mem hx
    obtain ⟨k, hk, e⟩ := List.getElem_of_mem hy
    exact h2 i k hi hk e.symm
theorem two_boxes (w : World) (c1 c2 : Array Value) : Blk ((w.alloc (.cells c1 29)).alloc (.cells c2 29)) w.heap.size 29 c1 ∧ Blk ((w.alloc (.cells c1 29)).alloc (.cells c2 29)) (w.heap.size + 1) 29 c2 ∧ Below w.heap.size w ((w.alloc (.cells c1 29)).alloc (.cells c2 29)) := by
  have h1 := Blk.new (w.alloc (.cells c1 29)) 29 c2
  rw [World.size_alloc] at h1
  exact ⟨(Blk.new w _ _).alloc _, h1, below_two w _ _⟩
set_option maxRecDepth 100000 in
set_option maxHeartbeats 4000000 in
theorem rsame_any (va vb : Value) (a b : Ev) (w : World) (ha : EvAt w va a) (hb : EvAt w vb b) : Calls Try.prog 21 #[va, vb] w (BoolMade w (decide (a = b))) := by
  obtain ⟨ua, rfl, r1⟩ := ha
  obtain ⟨ub, rfl, r2⟩ := hb
  obtain ⟨s1, k1, rfl, hl1, hm1, -, -⟩ := id r1
  obtain ⟨s2, k2, rfl, hl2, hm2, -, -⟩ := id r2
  unfold maxLen at hm1 hm2
  unfold evV
  have HR := Lib.hid (And.intro r1 r2)
  clear r1 r2
  have HNO : Hid (¬ (a.1 = b.1 ∧ a.2 = b.2) → decide (a = b) = false) := Lib.hid fun h => decide_eq_false fun e => h (by rw [e]; exact ⟨rfl, rfl⟩)
  have HYES : Hid (a.1 = b.1 ∧ a.2 = b.2 → decide (a = b) = true) := Lib.hid fun h => decide_eq_true (Prod.ext h.1 h.2)
  generalize decide (a = b) = res at *
  by_cases hn : a.1 = b.1
  · by_cases hlen : a.2.length = b.2.length
    · have e0 : (a.1 != b.1) = false := by rw [hn]; simp
      have e1 : ((a.2.length : Int) != (b.2.length : Int)) = false := by rw [hlen]; simp
      have HN := Lib.hid (And.intro hn hlen)
      clear hn hlen
      go_enter Try.func21, Try.ntmps21
      go_wp2
      clear e0 e1
      go_loopg [5] a.2.length (fun m i wr => ∃ k : Nat, m + k = a.2.length ∧ i = .int .i64 k ∧ (∀ j (h1 : j < a.2.length) (h2 : j < b.2.length), j < k → a.2[j] = b.2[j]) ∧ Blk wr w.heap.size 29 #[.int .i64 a.1, .slice s1 a.2.length k1] ∧ Blk wr (w.heap.size + 1) 29 #[.int .i64 b.1, .slice s2 b.2.length k2] ∧ Below w.heap.size w wr)
      case atStart => exact ⟨0, by omega, rfl, fun j _ _ h => by omega, two_boxes w _ _⟩
      case round =>
        obtain ⟨k, hmk, rfl, hall, hinv⟩ := hrel
        have HM := Lib.hid hmk
        have HALL := Lib.hid hall
        have HB := Lib.hid hinv
        have d0 := (hinv.1.cell 1).trans rfl
        have hk : k ≤ a.2.length := by omega
        clear hmk hall hinv
        by_cases hlt : k < a.2.length
        · have hlt2 : k < b.2.length := by have := HN.out.2; omega
          obtain ⟨b1, o1, c1, e1, g1, q1⟩ := int_at HR.out.1 hlt
          obtain ⟨b2, o2, c2, e2, g2, q2⟩ := int_at HR.out.2 hlt2
          injection e1 with e1 e3 e4
          injection e2 with e2 e5 e6
          subst e1 e2
          clear e3 e4 e5 e6
          have hki : (k : Int) < a.2.length := by omega
          have hkj : (k : Int) < b.2.length := by omega
          have hk0 : (0 : Int) ≤ (k : Int) := by omega
          have HC1 := Lib.hid (And.intro g1 q1)
          have HC2 := Lib.hid (And.intro g2 q2)
          have HNK : Hid (a.2[k] ≠ b.2[k] → res = false) := Lib.hid fun h => HNO.out fun h2 => h (by simp only [h2.2])
          have HGK : Hid (a.2[k] = b.2[k] → ∀ j (h1 : j < a.2.length) (h2 : j < b.2.length), j < k + 1 → a.2[j] = b.2[j]) := Lib.hid fun h1 j hj hj2 hjk => by
            by_cases h2 : j = k
            · subst h2; exact h1
            · exact HALL.out j hj hj2 (by omega)
          clear g1 q1 g2 q2
          generalize a.2[k] = x at *
          generalize b.2[k] = y at *
          clear hlt hlt2
          by_cases hxy : x = y
          · have HXY := Lib.hid (HGK.out hxy)
            subst hxy
            go_wp2_with fail
            refine region_left [.is (.pointer (some ⟨w.heap.size, 1, none⟩)), .is (.slice (some ⟨b1, o1, none⟩) a.2.length k1), .is (.int .i64 (k : Int)), .is (.pointer (some ⟨b1, o1 + k, none⟩)), .is (.int .i64 x), .is (.pointer (some ⟨w.heap.size + 1, 1, none⟩)), .is (.slice (some ⟨b2, o2, none⟩) b.2.length k2), .is (.int .i64 (k : Int)), .is (.pointer (some ⟨b2, o2 + k, none⟩)), .is (.int .i64 x), .is (.bool false)] (by kernel_rfl) rfl (by kernel_rfl) (by kernel_rfl) (.cons ?q1_0 (.cons ?q1_1 (.cons ?q1_2 (.cons ?q1_3 (.cons ?q1_4 (.cons ?q1_5 (.cons ?q1_6 (.cons ?q1_7 (.cons ?q1_8 (.cons ?q1_9 (.cons ?q1_10 .nil))))))))))) ?q1_fin
            case q1_0 =>
              intro wq hbw st  K hK
              simp only [Act.put, List.setIfInBounds_toArray, List.set_cons_zero, List.set_cons_succ] at hK ⊢
              unfold opStep
              rw [if_pos (by rfl)]
              go_simp
              exact hK.out _ _ (Below.refl _ _) rfl _ rfl
            case q1_1 =>
              intro wq hbw st  K hK
              simp only [Act.put, List.setIfInBounds_toArray, List.set_cons_zero, List.set_cons_succ] at hK ⊢
              unfold opStep
              rw [if_pos (by rfl)]
              have d1 := ((HB.out.1.on hbw).cell 1).trans rfl
              go_simp
              exact hK.out _ _ (Below.refl _ _) rfl _ rfl
            case q1_2 =>
              intro wq hbw st  K hK
              simp only [Act.put, List.setIfInBounds_toArray, List.set_cons_zero, List.set_cons_succ] at hK ⊢
              unfold opStep
              rw [if_pos (by rfl)]
              go_simp
              exact hK.out _ _ (Below.refl _ _) rfl _ rfl
            case q1_3 =>
              intro wq hbw st  K hK
              simp only [Act.put, List.setIfInBounds_toArray, List.set_cons_zero, List.set_cons_succ] at hK ⊢
              unfold opStep
              rw [if_pos (by rfl)]
              go_simp
              exact hK.out _ _ (Below.refl _ _) rfl _ rfl
            case q1_4 =>
              intro wq hbw st  K hK
              simp only [Act.put, List.setIfInBounds_toArray, List.set_cons_zero, List.set_cons_succ] at hK ⊢
              unfold opStep
              rw [if_pos (by rfl)]
              have KQ := HB.out.2.2.trans (hbw.mono HB.out.2.2.size)
              have d1 := (KQ.cell (p := ⟨b1, o1 + k, none⟩) HC1.out.1).trans HC1.out.2
              unfold vi at d1
              go_simp
              exact hK.out _ _ (Below.refl _ _) rfl _ rfl
            case q1_5 =>
              intro wq hbw st  K hK
              simp only [Act.put, List.setIfInBounds_toArray, List.set_cons_zero, List.set_cons_succ] at hK ⊢
              unfold opStep
              rw [if_pos (by rfl)]
              go_simp
              exact hK.out _ _ (Below.refl _ _) rfl _ rfl
            case q1_6 =>
              intro wq hbw st  K hK
              simp only [Act.put, List.setIfInBounds_toArray, List.set_cons_zero, List.set_cons_succ] at hK ⊢
              unfold opStep
              rw [if_pos (by rfl)]
              have d1 := ((HB.out.2.1.on hbw).cell 1).trans rfl
              go_simp
              exact hK.out _ _ (Below.refl _ _) rfl _ rfl
            case q1_7 =>
              intro wq hbw st  K hK
              simp only [Act.put, List.setIfInBounds_toArray, List.set_cons_zero, List.set_cons_succ] at hK ⊢
              unfold opStep
              rw [if_pos (by rfl)]
              go_simp
              exact hK.out _ _ (Below.refl _ _) rfl _ rfl
            case q1_8 =>
              intro wq hbw st  K hK
              simp only [Act.put, List.setIfInBounds_toArray, List.set_cons_zero, List.set_cons_succ] at hK ⊢
              unfold opStep
              rw [if_pos (by rfl)]
              go_simp
              exact hK.out _ _ (Below.refl _ _) rfl _ rfl
            case q1_9 =>
              intro wq hbw st  K hK
              simp only [Act.put, List.setIfInBounds_toArray, List.set_cons_zero, List.set_cons_succ] at hK ⊢
              unfold opStep
              rw [if_pos (by rfl)]
              have KQ := HB.out.2.2.trans (hbw.mono HB.out.2.2.size)
              have d1 := (KQ.cell (p := ⟨b2, o2 + k, none⟩) HC2.out.1).trans HC2.out.2
              unfold vi at d1
              go_simp
              exact hK.out _ _ (Below.refl _ _) rfl _ rfl
            case q1_10 =>
              intro wq hbw st  K hK
              simp only [Act.put, List.setIfInBounds_toArray, List.set_cons_zero, List.set_cons_succ] at hK ⊢
              unfold opStep
              rw [if_pos (by rfl)]
              go_simp
              exact hK.out _ _ (Below.refl _ _) rfl _ rfl
            case q1_fin =>
              intro wq hbw
              try simp only [FinAll]
              simp only [Act.put, List.setIfInBounds_toArray, List.set_cons_zero, List.set_cons_succ]
              replace HB := Lib.hid (And.intro (HB.out.1.on hbw) (And.intro (HB.out.2.1.on hbw) (HB.out.2.2.trans (hbw.mono HB.out.2.2.size))))
              clear hbw d0
              go_wp2
              go_roundg (a.2.length - (k + 1))
              case measure => have := HM.out; omega
              case rel => exact ⟨k + 1, by omega, by go_num, HXY.out, HB.out⟩
          · have HF := Lib.hid (HNK.out hxy)
            have hne : (x != y) = true := by simp; exact hxy
            clear hxy
            go_wp2_with fail
            refine region_left [.is (.pointer (some ⟨w.heap.size, 1, none⟩)), .is (.slice (some ⟨b1, o1, none⟩) a.2.length k1), .is (.int .i64 (k : Int)), .is (.pointer (some ⟨b1, o1 + k, none⟩)), .is (.int .i64 x), .is (.pointer (some ⟨w.heap.size + 1, 1, none⟩)), .is (.slice (some ⟨b2, o2, none⟩) b.2.length k2), .is (.int .i64 (k : Int)), .is (.pointer (some ⟨b2, o2 + k, none⟩)), .is (.int .i64 y), .is (.bool true)] (by kernel_rfl) rfl (by kernel_rfl) (by kernel_rfl) (.cons ?q2_0 (.cons ?q2_1 (.cons ?q2_2 (.cons ?q2_3 (.cons ?q2_4 (.cons ?q2_5 (.cons ?q2_6 (.cons ?q2_7 (.cons ?q2_8 (.cons ?q2_9 (.cons ?q2_10 .nil))))))))))) ?q2_fin
            case q2_0 =>
              intro wq hbw st  K hK
              simp only [Act.put, List.setIfInBounds_toArray, List.set_cons_zero, List.set_cons_succ] at hK ⊢
              unfold opStep
              rw [if_pos (by rfl)]
              go_simp
              exact hK.out _ _ (Below.refl _ _) rfl _ rfl
            case q2_1 =>
              intro wq hbw st  K hK
              simp only [Act.put, List.setIfInBounds_toArray, List.set_cons_zero, List.set_cons_succ] at hK ⊢
              unfold opStep
              rw [if_pos (by rfl)]
              have d1 := ((HB.out.1.on hbw).cell 1).trans rfl
              go_simp
              exact hK.out _ _ (Below.refl _ _) rfl _ rfl
            case q2_2 =>
              intro wq hbw st  K hK
              simp only [Act.put, List.setIfInBounds_toArray, List.set_cons_zero, List.set_cons_succ] at hK ⊢
              unfold opStep
              rw [if_pos (by rfl)]
              go_simp
              exact hK.out _ _ (Below.refl _ _) rfl _ rfl
            case q2_3 =>
              intro wq hbw st  K hK
              simp only [Act.put, List.setIfInBounds_toArray, List.set_cons_zero, List.set_cons_succ] at hK ⊢
              unfold opStep
              rw [if_pos (by rfl)]
              go_simp
              exact hK.out _ _ (Below.refl _ _) rfl _ rfl
            case q2_4 =>
              intro wq hbw st  K hK
              simp only [Act.put, List.setIfInBounds_toArray, List.set_cons_zero, List.set_cons_succ] at hK ⊢
              unfold opStep
              rw [if_pos (by rfl)]
              have KQ := HB.out.2.2.trans (hbw.mono HB.out.2.2.size)
              have d1 := (KQ.cell (p := ⟨b1, o1 + k, none⟩) HC1.out.1).trans HC1.out.2
              unfold vi at d1
              go_simp
              exact hK.out _ _ (Below.refl _ _) rfl _ rfl
            case q2_5 =>
              intro wq hbw st  K hK
              simp only [Act.put, List.setIfInBounds_toArray, List.set_cons_zero, List.set_cons_succ] at hK ⊢
              unfold opStep
              rw [if_pos (by rfl)]
              go_simp
              exact hK.out _ _ (Below.refl _ _) rfl _ rfl
            case q2_6 =>
              intro wq hbw st  K hK
              simp only [Act.put, List.setIfInBounds_toArray, List.set_cons_zero, List.set_cons_succ] at hK ⊢
              unfold opStep
              rw [if_pos (by rfl)]
              have d1 := ((HB.out.2.1.on hbw).cell 1).trans rfl
              go_simp
              exact hK.out _ _ (Below.refl _ _) rfl _ rfl
            case q2_7 =>
              intro wq hbw st  K hK
              simp only [Act.put, List.setIfInBounds_toArray, List.set_cons_zero, List.set_cons_succ] at hK ⊢
              unfold opStep
              rw [if_pos (by rfl)]
              go_simp
              exact hK.out _ _ (Below.refl _ _) rfl _ rfl
            case q2_8 =>
              intro wq hbw st  K hK
              simp only [Act.put, List.setIfInBounds_toArray, List.set_cons_zero, List.set_cons_succ] at hK ⊢
              unfold opStep
              rw [if_pos (by rfl)]
              go_simp
              exact hK.out _ _ (Below.refl _ _) rfl _ rfl
            case q2_9 =>
              intro wq hbw st  K hK
              simp only [Act.put, List.setIfInBounds_toArray, List.set_cons_zero, List.set_cons_succ] at hK ⊢
              unfold opStep
              rw [if_pos (by rfl)]
              have KQ := HB.out.2.2.trans (hbw.mono HB.out.2.2.size)
              have d1 := (KQ.cell (p := ⟨b2, o2 + k, none⟩) HC2.out.1).trans HC2.out.2
              unfold vi at d1
              go_simp
              exact hK.out _ _ (Below.refl _ _) rfl _ rfl
            case q2_10 =>
              intro wq hbw st  K hK
              simp only [Act.put, List.setIfInBounds_toArray, List.set_cons_zero, List.set_cons_succ] at hK ⊢
              unfold opStep
              rw [if_pos (by rfl)]
              go_simp
              exact hK.out _ _ (Below.refl _ _) rfl _ rfl
            case q2_fin =>
              intro wq hbw
              try simp only [FinAll]
              simp only [Act.put, List.setIfInBounds_toArray, List.set_cons_zero, List.set_cons_succ]
              replace HB := Lib.hid (And.intro (HB.out.1.on hbw) (And.intro (HB.out.2.1.on hbw) (HB.out.2.2.trans (hbw.mono HB.out.2.2.size))))
              clear hbw d0
              go_wp2
              go_ret
              exact ⟨ret_bool HF.out.symm, HB.out.2.2⟩
        · have hkk : k = a.2.length := by omega
          subst hkk
          have HF := Lib.hid (HYES.out ⟨HN.out.1, List.ext_getElem HN.out.2 fun j h1 h2 => HALL.out j h1 h2 h1⟩)
          go_wp2
          go_ret
          exact ⟨ret_bool HF.out.symm, HB.out.2.2⟩
    · have e0 : (a.1 != b.1) = false := by rw [hn]; simp
      have e1 : ((a.2.length : Int) != (b.2.length : Int)) = true := by simp; omega
      have HF := Lib.hid (HNO.out fun h => hlen (by rw [h.2]))
      clear hn hlen
      go_enter Try.func21, Try.ntmps21
      go_wp2
      go_ret
      exact ⟨ret_bool HF.out.symm, below_two w _ _⟩
  · have e0 : (a.1 != b.1) = true := by simp; exact hn
    have HF := Lib.hid (HNO.out fun h => hn h.1)
    clear hn
    go_enter Try.func21, Try.ntmps21
    go_wp2
    go_ret
    exact ⟨ret_bool HF.out.symm, below_two w _ _⟩
set_option maxRecDepth 100000 in
set_option maxHeartbeats 4000000 in
theorem rdep_any (va vb : Value) (a b : Ev) (w : World) (ha : EvAt w va a) (hb : EvAt w vb b) : Calls Try.prog 15 #[va, vb] w (BoolMade w (depE a b)) := by
  obtain ⟨ua, rfl, r1⟩ := ha
  obtain ⟨ub, rfl, r2⟩ := hb
  obtain ⟨s1, k1, rfl, hl1, hm1, -, -⟩ := id r1
  obtain ⟨s2, k2, rfl, hl2, hm2, -, -⟩ := id r2
  unfold maxLen at hm1 hm2
  unfold evV
  have HR := Lib.hid (And.intro r1 r2)
  clear r1 r2
  have HYES := Lib.hid (@depE_yes a b)
  have HNO := Lib.hid (@depE_no a b)
  generalize depE a b = res at *
  by_cases hn : a.1 = b.1
  · have e0 := beq_t hn
    have HF := Lib.hid (HYES.out (.inl hn))
    clear hn
    go_enter Try.func15, Try.ntmps15
    go_wp2
    go_ret
    exact ⟨ret_bool HF.out.symm, below_two w _ _⟩
  · have e0 := beq_f hn
    have HN := Lib.hid hn
    clear hn
    go_enter Try.func15, Try.ntmps15
    go_wp2
    clear e0
    go_loopg [5, 6] a.2.length (fun m i _ wr => ∃ p : Nat, m + p = a.2.length ∧ i = .int .i64 p ∧ (∀ i k (hi : i < a.2.length) (hk : k < b.2.length), i < p → ¬ a.2[i] = b.2[k]) ∧ Blk wr w.heap.size 29 #[.int .i64 a.1, .slice s1 a.2.length k1] ∧ Blk wr (w.heap.size + 1) 29 #[.int .i64 b.1, .slice s2 b.2.length k2] ∧ Below w.heap.size w wr)
    case atStart => exact ⟨0, by omega, rfl, fun i k _ _ h => by omega, two_boxes w _ _⟩
    case round =>
      obtain ⟨p, hmk, rfl, hall, hinv⟩ := hrel
      have HM := Lib.hid hmk
      have HALL := Lib.hid hall
      have HB := Lib.hid hinv
      have d0 := (hinv.1.cell 1).trans rfl
      have hk : p ≤ a.2.length := by omega
      clear hmk hall hinv
      by_cases hlt : p < a.2.length
      · have hpi : (p : Int) < a.2.length := by omega
        have HLT := Lib.hid (And.intro hlt trivial)
        go_wp2
        clear d0
        go_loopg [6] b.2.length (fun m i wr => ∃ k : Nat, m + k = b.2.length ∧ i = .int .i64 k ∧ (∀ j (h1 : p < a.2.length) (h2 : j < b.2.length), j < k → ¬ a.2[p] = b.2[j]) ∧ Blk wr w.heap.size 29 #[.int .i64 a.1, .slice s1 a.2.length k1] ∧ Blk wr (w.heap.size + 1) 29 #[.int .i64 b.1, .slice s2 b.2.length k2] ∧ Below w.heap.size w wr)
        case atStart => exact ⟨0, by omega, rfl, fun j _ _ h => by omega, HB.out⟩
        case round =>
          clear HB
          obtain ⟨k, hmk2, rfl, hall2, hinv⟩ := hrel
          have HM2 := Lib.hid hmk2
          have HALL2 := Lib.hid hall2
          have HB := Lib.hid hinv
          have d0 := (hinv.2.1.cell 1).trans rfl
          have hk2 : k ≤ b.2.length := by omega
          clear hmk2 hall2 hinv
          by_cases hlt2 : k < b.2.length
          · obtain ⟨b1, o1, c1, e1, g1, q1⟩ := int_at HR.out.1 hlt
            obtain ⟨b2, o2, c2, e2, g2, q2⟩ := int_at HR.out.2 hlt2
            injection e1 with e1 e3 e4
            injection e2 with e2 e5 e6
            subst e1 e2
            clear e3 e4 e5 e6
            have hkj : (k : Int) < b.2.length := by omega
            have hk0 : (0 : Int) ≤ (k : Int) := by omega
            have hp0 : (0 : Int) ≤ (p : Int) := by omega
            have HC1 := Lib.hid (And.intro g1 q1)
            have HC2 := Lib.hid (And.intro g2 q2)
            have HYK : Hid (a.2[p] = b.2[k] → res = true) := Lib.hid fun h => HYES.out (.inr ⟨p, k, hlt, hlt2, h⟩)
            have HGK : Hid (¬ a.2[p] = b.2[k] → ∀ j (h1 : p < a.2.length) (h2 : j < b.2.length), j < k + 1 → ¬ a.2[p] = b.2[j]) := Lib.hid fun h1 j hj hj2 hjk => by
              by_cases h2 : j = k
              · subst h2; exact h1
              · exact HALL2.out j hj hj2 (by omega)
            clear g1 q1 g2 q2
            generalize a.2[p] = x at *
            generalize b.2[k] = y at *
            clear hlt hlt2
            by_cases hxy : x = y
            · have HF := Lib.hid (HYK.out hxy)
              subst hxy
              clear HGK
              go_wp2_with fail
              refine region_left [.is (.pointer (some ⟨w.heap.size, 1, none⟩)), .is (.slice (some ⟨b1, o1, none⟩) a.2.length k1), .is (.int .i64 (p : Int)), .is (.pointer (some ⟨b1, o1 + p, none⟩)), .is (.int .i64 x), .is (.pointer (some ⟨w.heap.size + 1, 1, none⟩)), .is (.slice (some ⟨b2, o2, none⟩) b.2.length k2), .is (.int .i64 (k : Int)), .is (.pointer (some ⟨b2, o2 + k, none⟩)), .is (.int .i64 x), .is (.bool true)] (by kernel_rfl) rfl (by kernel_rfl) (by kernel_rfl) (.cons ?q1_0 (.cons ?q1_1 (.cons ?q1_2 (.cons ?q1_3 (.cons ?q1_4 (.cons ?q1_5 (.cons ?q1_6 (.cons ?q1_7 (.cons ?q1_8 (.cons ?q1_9 (.cons ?q1_10 .nil))))))))))) ?q1_fin
              case q1_0 =>
                intro wq hbw st  K hK
                simp only [Act.put, List.setIfInBounds_toArray, List.set_cons_zero, List.set_cons_succ] at hK ⊢
                unfold opStep
                rw [if_pos (by rfl)]
                go_simp
                exact hK.out _ _ (Below.refl _ _) rfl _ rfl
              case q1_1 =>
                intro wq hbw st  K hK
                simp only [Act.put, List.setIfInBounds_toArray, List.set_cons_zero, List.set_cons_succ] at hK ⊢
                unfold opStep
                rw [if_pos (by rfl)]
                have d1 := ((HB.out.1.on hbw).cell 1).trans rfl
                go_simp
                exact hK.out _ _ (Below.refl _ _) rfl _ rfl
              case q1_2 =>
                intro wq hbw st  K hK
                simp only [Act.put, List.setIfInBounds_toArray, List.set_cons_zero, List.set_cons_succ] at hK ⊢
                unfold opStep
                rw [if_pos (by rfl)]
                go_simp
                exact hK.out _ _ (Below.refl _ _) rfl _ rfl
              case q1_3 =>
                intro wq hbw st  K hK
                simp only [Act.put, List.setIfInBounds_toArray, List.set_cons_zero, List.set_cons_succ] at hK ⊢
                unfold opStep
                rw [if_pos (by rfl)]
                go_simp
                exact hK.out _ _ (Below.refl _ _) rfl _ rfl
              case q1_4 =>
                intro wq hbw st  K hK
                simp only [Act.put, List.setIfInBounds_toArray, List.set_cons_zero, List.set_cons_succ] at hK ⊢
                unfold opStep
                rw [if_pos (by rfl)]
                have KQ := HB.out.2.2.trans (hbw.mono HB.out.2.2.size)
                have d1 := (KQ.cell (p := ⟨b1, o1 + p, none⟩) HC1.out.1).trans HC1.out.2
                unfold vi at d1
                go_simp
                exact hK.out _ _ (Below.refl _ _) rfl _ rfl
              case q1_5 =>
                intro wq hbw st  K hK
                simp only [Act.put, List.setIfInBounds_toArray, List.set_cons_zero, List.set_cons_succ] at hK ⊢
                unfold opStep
                rw [if_pos (by rfl)]
                go_simp
                exact hK.out _ _ (Below.refl _ _) rfl _ rfl
              case q1_6 =>
                intro wq hbw st  K hK
                simp only [Act.put, List.setIfInBounds_toArray, List.set_cons_zero, List.set_cons_succ] at hK ⊢
                unfold opStep
                rw [if_pos (by rfl)]
                have d1 := ((HB.out.2.1.on hbw).cell 1).trans rfl
                go_simp
                exact hK.out _ _ (Below.refl _ _) rfl _ rfl
              case q1_7 =>
                intro wq hbw st  K hK
                simp only [Act.put, List.setIfInBounds_toArray, List.set_cons_zero, List.set_cons_succ] at hK ⊢
                unfold opStep
                rw [if_pos (by rfl)]
                go_simp
                exact hK.out _ _ (Below.refl _ _) rfl _ rfl
              case q1_8 =>
                intro wq hbw st  K hK
                simp only [Act.put, List.setIfInBounds_toArray, List.set_cons_zero, List.set_cons_succ] at hK ⊢
                unfold opStep
                rw [if_pos (by rfl)]
                go_simp
                exact hK.out _ _ (Below.refl _ _) rfl _ rfl
              case q1_9 =>
                intro wq hbw st  K hK
                simp only [Act.put, List.setIfInBounds_toArray, List.set_cons_zero, List.set_cons_succ] at hK ⊢
                unfold opStep
                rw [if_pos (by rfl)]
                have KQ := HB.out.2.2.trans (hbw.mono HB.out.2.2.size)
                have d1 := (KQ.cell (p := ⟨b2, o2 + k, none⟩) HC2.out.1).trans HC2.out.2
                unfold vi at d1
                go_simp
                exact hK.out _ _ (Below.refl _ _) rfl _ rfl
              case q1_10 =>
                intro wq hbw st  K hK
                simp only [Act.put, List.setIfInBounds_toArray, List.set_cons_zero, List.set_cons_succ] at hK ⊢
                unfold opStep
                rw [if_pos (by rfl)]
                go_simp
                exact hK.out _ _ (Below.refl _ _) rfl _ rfl
              case q1_fin =>
                intro wq hbw
                try simp only [FinAll]
                simp only [Act.put, List.setIfInBounds_toArray, List.set_cons_zero, List.set_cons_succ]
                replace HB := Lib.hid (And.intro (HB.out.1.on hbw) (And.intro (HB.out.2.1.on hbw) (HB.out.2.2.trans (hbw.mono HB.out.2.2.size))))
                clear hbw d0
                go_wp2
                go_ret
                exact ⟨ret_bool HF.out.symm, HB.out.2.2⟩
            · have HXY := Lib.hid (HGK.out hxy)
              have hne := beq_f hxy
              clear hxy HGK HYK
              go_wp2_with fail
              refine region_left [.is (.pointer (some ⟨w.heap.size, 1, none⟩)), .is (.slice (some ⟨b1, o1, none⟩) a.2.length k1), .is (.int .i64 (p : Int)), .is (.pointer (some ⟨b1, o1 + p, none⟩)), .is (.int .i64 x), .is (.pointer (some ⟨w.heap.size + 1, 1, none⟩)), .is (.slice (some ⟨b2, o2, none⟩) b.2.length k2), .is (.int .i64 (k : Int)), .is (.pointer (some ⟨b2, o2 + k, none⟩)), .is (.int .i64 y), .is (.bool false)] (by kernel_rfl) rfl (by kernel_rfl) (by kernel_rfl) (.cons ?q2_0 (.cons ?q2_1 (.cons ?q2_2 (.cons ?q2_3 (.cons ?q2_4 (.cons ?q2_5 (.cons ?q2_6 (.cons ?q2_7 (.cons ?q2_8 (.cons ?q2_9 (.cons ?q2_10 .nil))))))))))) ?q2_fin
              case q2_0 =>
                intro wq hbw st  K hK
                simp only [Act.put, List.setIfInBounds_toArray, List.set_cons_zero, List.set_cons_succ] at hK ⊢
                unfold opStep
                rw [if_pos (by rfl)]
                go_simp
                exact hK.out _ _ (Below.refl _ _) rfl _ rfl
              case q2_1 =>
                intro wq hbw st  K hK
                simp only [Act.put, List.setIfInBounds_toArray, List.set_cons_zero, List.set_cons_succ] at hK ⊢
                unfold opStep
                rw [if_pos (by rfl)]
                have d1 := ((HB.out.1.on hbw).cell 1).trans rfl
                go_simp
                exact hK.out _ _ (Below.refl _ _) rfl _ rfl
              case q2_2 =>
                intro wq hbw st  K hK
                simp only [Act.put, List.setIfInBounds_toArray, List.set_cons_zero, List.set_cons_succ] at hK ⊢
                unfold opStep
                rw [if_pos (by rfl)]
                go_simp
                exact hK.out _ _ (Below.refl _ _) rfl _ rfl
              case q2_3 =>
                intro wq hbw st  K hK
                simp only [Act.put, List.setIfInBounds_toArray, List.set_cons_zero, List.set_cons_succ] at hK ⊢
                unfold opStep
                rw [if_pos (by rfl)]
                go_simp
                exact hK.out _ _ (Below.refl _ _) rfl _ rfl
              case q2_4 =>
                intro wq hbw st  K hK
                simp only [Act.put, List.setIfInBounds_toArray, List.set_cons_zero, List.set_cons_succ] at hK ⊢
                unfold opStep
                rw [if_pos (by rfl)]
                have KQ := HB.out.2.2.trans (hbw.mono HB.out.2.2.size)
                have d1 := (KQ.cell (p := ⟨b1, o1 + p, none⟩) HC1.out.1).trans HC1.out.2
                unfold vi at d1
                go_simp
                exact hK.out _ _ (Below.refl _ _) rfl _ rfl
              case q2_5 =>
                intro wq hbw st  K hK
                simp only [Act.put, List.setIfInBounds_toArray, List.set_cons_zero, List.set_cons_succ] at hK ⊢
                unfold opStep
                rw [if_pos (by rfl)]
                go_simp
                exact hK.out _ _ (Below.refl _ _) rfl _ rfl
              case q2_6 =>
                intro wq hbw st  K hK
                simp only [Act.put, List.setIfInBounds_toArray, List.set_cons_zero, List.set_cons_succ] at hK ⊢
                unfold opStep
                rw [if_pos (by rfl)]
                have d1 := ((HB.out.2.1.on hbw).cell 1).trans rfl
                go_simp
                exact hK.out _ _ (Below.refl _ _) rfl _ rfl
              case q2_7 =>
                intro wq hbw st  K hK
                simp only [Act.put, List.setIfInBounds_toArray, List.set_cons_zero, List.set_cons_succ] at hK ⊢
                unfold opStep
                rw [if_pos (by rfl)]
                go_simp
                exact hK.out _ _ (Below.refl _ _) rfl _ rfl
              case q2_8 =>
                intro wq hbw st  K hK
                simp only [Act.put, List.setIfInBounds_toArray, List.set_cons_zero, List.set_cons_succ] at hK ⊢
                unfold opStep
                rw [if_pos (by rfl)]
                go_simp
                exact hK.out _ _ (Below.refl _ _) rfl _ rfl
              case q2_9 =>
                intro wq hbw st  K hK
                simp only [Act.put, List.setIfInBounds_toArray, List.set_cons_zero, List.set_cons_succ] at hK ⊢
                unfold opStep
                rw [if_pos (by rfl)]
                have KQ := HB.out.2.2.trans (hbw.mono HB.out.2.2.size)
                have d1 := (KQ.cell (p := ⟨b2, o2 + k, none⟩) HC2.out.1).trans HC2.out.2
                unfold vi at d1
                go_simp
                exact hK.out _ _ (Below.refl _ _) rfl _ rfl
              case q2_10 =>
                intro wq hbw st  K hK
                simp only [Act.put, List.setIfInBounds_toArray, List.set_cons_zero, List.set_cons_succ] at hK ⊢
                unfold opStep
                rw [if_pos (by rfl)]
                go_simp
                exact hK.out _ _ (Below.refl _ _) rfl _ rfl
              case q2_fin =>
                intro wq hbw
                try simp only [FinAll]
                simp only [Act.put, List.setIfInBounds_toArray, List.set_cons_zero, List.set_cons_succ]
                replace HB := Lib.hid (And.intro (HB.out.1.on hbw) (And.intro (HB.out.2.1.on hbw) (HB.out.2.2.trans (hbw.mono HB.out.2.2.size))))
                clear hbw d0
                go_wp2
                go_roundg (b.2.length - (k + 1))
                case measure => have := HM2.out; omega
                case rel => exact ⟨k + 1, by omega, by go_num, HXY.out, HB.out⟩
          · have hkk : k = b.2.length := by omega
            subst hkk
            have HALL3 : Hid (∀ i k (hi : i < a.2.length) (hk : k < b.2.length), i < p + 1 → ¬ a.2[i] = b.2[k]) := Lib.hid fun i k hi hq hip => by
              by_cases e : i = p
              · subst e; exact HALL2.out k hi hq hq
              · exact HALL.out i k hi hq (by omega)
            go_wp2
            go_roundg (a.2.length - (p + 1))
            case measure => have := HM.out; omega
            case rel => exact ⟨p + 1, by have := HLT.out.1; omega, by go_num, HALL3.out, HB.out⟩
      · have hpp : p = a.2.length := by omega
        subst hpp
        have HF := Lib.hid (HNO.out HN.out fun i k hi hk => HALL.out i k hi hk hi)
        go_wp2
        go_ret
        exact ⟨ret_bool HF.out.symm, HB.out.2.2⟩
set_option maxRecDepth 100000 in
set_option maxHeartbeats 4000000 in
theorem rstr_any (va vb : Value) (a b : List Ev) (W : World) (ha : ReadsE W va a) (hb : ReadsE W vb b) : Calls Try.prog 16 #[va, vb] W (BoolMade W (decide (a = b))) := by
  have HR := Lib.hid (And.intro ha hb)
  have HNO : Hid (∀ j (h1 : j < a.length) (h2 : j < b.length), a[j] ≠ b[j] → decide (a = b) = false) := Lib.hid fun j h1 h2 hne => decide_eq_false fun e => hne (by subst e; rfl)
  obtain ⟨ua, uk, rfl, huk, hul, -, -⟩ := ha
  obtain ⟨va, vk, rfl, hvk, hvl, -, -⟩ := hb
  unfold maxLen at hul hvl
  by_cases hlen : a.length = b.length
  · have HLEN := Lib.hid (And.intro hlen trivial)
    have HYES : Hid ((∀ j (h1 : j < a.length) (h2 : j < b.length), a[j] = b[j]) → decide (a = b) = true) := Lib.hid fun hh => decide_eq_true (List.ext_getElem hlen fun j h1 h2 => hh j h1 h2)
    go_enter Try.func16, Try.ntmps16
    have hib : ((a.length : Int) != (b.length : Int)) = false := by rw [hlen]; simp
    clear hlen
    generalize decide (a = b) = res at *
    go_wp2
    clear hib
    go_loopg [5] a.length (fun m i wr => ∃ k : Nat, m + k = a.length ∧ i = .int .i64 k ∧ (∀ j (h1 : j < a.length) (h2 : j < b.length), j < k → a[j] = b[j]) ∧ Below W.heap.size W wr)
    case atStart => exact ⟨0, by omega, rfl, fun j _ _ h => by omega, Below.refl _ _⟩
    case round =>
      obtain ⟨k, hmk, rfl, hall, hbel⟩ := hrel
      have HM := Lib.hid hmk
      have HALL := Lib.hid hall
      have KW := Lib.hid hbel
      have hk : k ≤ a.length := by omega
      clear hmk hall hbel
      by_cases hlt : k < a.length
      · have hlt2 : k < b.length := by have := HLEN.out.1; omega
        obtain ⟨b1, o1, c1, s1, n1, hv, hcell, r1⟩ := HR.out.1.at2 hlt
        injection hv with e1 e2 e3
        subst e1
        obtain ⟨b2, o2, c2, s2, n2, hv, hcell', r2⟩ := HR.out.2.at2 hlt2
        injection hv with e1 e2' e3'
        subst e1
        have hki : (k : Int) < a.length := by omega
        have hkj : (k : Int) < b.length := by omega
        have hk0 : (0 : Int) ≤ (k : Int) := by omega
        have HX := Lib.hid (And.intro hcell r1)
        have HY := Lib.hid (And.intro hcell' r2)
        have HNK := Lib.hid (HNO.out k hlt hlt2)
        have HGK : Hid (a[k] = b[k] → ∀ j (h1 : j < a.length) (h2 : j < b.length), j < k + 1 → a[j] = b[j]) := Lib.hid fun h1 j hj hj2 hjk => by
          by_cases h2 : j = k
          · subst h2; exact h1
          · exact HALL.out j hj hj2 (by omega)
        clear e2 e3 e2' e3' hcell hcell' r1 r2
        generalize a[k] = x at *
        generalize b[k] = y at *
        clear hlt hlt2
        by_cases hxy : x = y
        · have HXY := Lib.hid (HGK.out hxy)
          have HD := Lib.hid (decide_eq_true hxy)
          clear hxy HGK HNK
          go_wp2_with fail
          refine region_left [.is (.slice (some ⟨b1, o1, none⟩) a.length uk), .is (.int .i64 (k : Int)), .is (.pointer (some ⟨b1, o1 + k * 2, none⟩)), .is (.agg #[.int .i64 x.1, .slice s1 x.2.length n1]), .is (.slice (some ⟨b2, o2, none⟩) b.length vk), .is (.int .i64 (k : Int)), .is (.pointer (some ⟨b2, o2 + k * 2, none⟩)), .is (.agg #[.int .i64 y.1, .slice s2 y.2.length n2]), .is (.bool true), .is (.bool false)] (by kernel_rfl) rfl (by kernel_rfl) (by kernel_rfl) (.cons ?qt_0 (.cons ?qt_1 (.cons ?qt_2 (.cons ?qt_3 (.cons ?qt_4 (.cons ?qt_5 (.cons ?qt_6 (.cons ?qt_7 (.cons ?qt_8 (.cons ?qt_9 .nil)))))))))) ?qt_fin
          case qt_0 =>
            intro wq hbw st  K hK
            have KQ := KW.out.trans (hbw.mono KW.out.size)
            simp only [Act.put, List.setIfInBounds_toArray, List.set_cons_zero, List.set_cons_succ] at hK ⊢
            unfold opStep
            rw [if_pos (by rfl)]
            go_simp
            exact hK.out _ _ (Below.refl _ _) rfl _ rfl
          case qt_1 =>
            intro wq hbw st  K hK
            have KQ := KW.out.trans (hbw.mono KW.out.size)
            simp only [Act.put, List.setIfInBounds_toArray, List.set_cons_zero, List.set_cons_succ] at hK ⊢
            unfold opStep
            rw [if_pos (by rfl)]
            go_simp
            exact hK.out _ _ (Below.refl _ _) rfl _ rfl
          case qt_2 =>
            intro wq hbw st  K hK
            have KQ := KW.out.trans (hbw.mono KW.out.size)
            simp only [Act.put, List.setIfInBounds_toArray, List.set_cons_zero, List.set_cons_succ] at hK ⊢
            unfold opStep
            rw [if_pos (by rfl)]
            go_simp
            exact hK.out _ _ (Below.refl _ _) rfl _ rfl
          case qt_3 =>
            intro wq hbw st  K hK
            have KQ := KW.out.trans (hbw.mono KW.out.size)
            simp only [Act.put, List.setIfInBounds_toArray, List.set_cons_zero, List.set_cons_succ] at hK ⊢
            unfold opStep
            rw [if_pos (by rfl)]
            have dd := Lib.hid (HX.out.1 _ KQ)
            have d0 := dd.out.1
            have d1 := dd.out.2
            go_simp
            exact hK.out _ _ (Below.refl _ _) rfl _ rfl
          case qt_4 =>
            intro wq hbw st  K hK
            have KQ := KW.out.trans (hbw.mono KW.out.size)
            simp only [Act.put, List.setIfInBounds_toArray, List.set_cons_zero, List.set_cons_succ] at hK ⊢
            unfold opStep
            rw [if_pos (by rfl)]
            go_simp
            exact hK.out _ _ (Below.refl _ _) rfl _ rfl
          case qt_5 =>
            intro wq hbw st  K hK
            have KQ := KW.out.trans (hbw.mono KW.out.size)
            simp only [Act.put, List.setIfInBounds_toArray, List.set_cons_zero, List.set_cons_succ] at hK ⊢
            unfold opStep
            rw [if_pos (by rfl)]
            go_simp
            exact hK.out _ _ (Below.refl _ _) rfl _ rfl
          case qt_6 =>
            intro wq hbw st  K hK
            have KQ := KW.out.trans (hbw.mono KW.out.size)
            simp only [Act.put, List.setIfInBounds_toArray, List.set_cons_zero, List.set_cons_succ] at hK ⊢
            unfold opStep
            rw [if_pos (by rfl)]
            go_simp
            exact hK.out _ _ (Below.refl _ _) rfl _ rfl
          case qt_7 =>
            intro wq hbw st  K hK
            have KQ := KW.out.trans (hbw.mono KW.out.size)
            simp only [Act.put, List.setIfInBounds_toArray, List.set_cons_zero, List.set_cons_succ] at hK ⊢
            unfold opStep
            rw [if_pos (by rfl)]
            have dd := Lib.hid (HY.out.1 _ KQ)
            have d0 := dd.out.1
            have d1 := dd.out.2
            go_simp
            exact hK.out _ _ (Below.refl _ _) rfl _ rfl
          case qt_8 =>
            intro wq hbw st  K hK
            have KQ := KW.out.trans (hbw.mono KW.out.size)
            simp only [Act.put, List.setIfInBounds_toArray, List.set_cons_zero, List.set_cons_succ] at hK ⊢
            unfold opStep
            rw [if_pos (by rfl)]
            go_simp
            have hpc := rsame_any _ _ x y wq ⟨_, rfl, HX.out.2.keep KQ⟩ ⟨_, rfl, HY.out.2.keep KQ⟩
            rw [HD.out] at hpc
            refine hpc.mono ?_
            rintro e wz ⟨rfl, hbz⟩
            go_simp
            exact hK.out _ _ hbz rfl _ rfl
          case qt_9 =>
            intro wq hbw st  K hK
            have KQ := KW.out.trans (hbw.mono KW.out.size)
            simp only [Act.put, List.setIfInBounds_toArray, List.set_cons_zero, List.set_cons_succ] at hK ⊢
            unfold opStep
            rw [if_pos (by rfl)]
            go_simp
            exact hK.out _ _ (Below.refl _ _) rfl _ rfl
          case qt_fin =>
            intro wq hbw
            try simp only [FinAll]
            simp only [Act.put, List.setIfInBounds_toArray, List.set_cons_zero, List.set_cons_succ]
            replace KW := Lib.hid (KW.out.trans (hbw.mono KW.out.size))
            clear hbw
            go_wp2
            go_roundg (a.length - (k + 1))
            case measure => have := HM.out; omega
            case rel => exact ⟨k + 1, by omega, by go_num, HXY.out, KW.out⟩
        · have HF := Lib.hid (HNK.out hxy)
          have HD := Lib.hid (decide_eq_false hxy)
          clear hxy HGK HNK
          go_wp2_with fail
          refine region_left [.is (.slice (some ⟨b1, o1, none⟩) a.length uk), .is (.int .i64 (k : Int)), .is (.pointer (some ⟨b1, o1 + k * 2, none⟩)), .is (.agg #[.int .i64 x.1, .slice s1 x.2.length n1]), .is (.slice (some ⟨b2, o2, none⟩) b.length vk), .is (.int .i64 (k : Int)), .is (.pointer (some ⟨b2, o2 + k * 2, none⟩)), .is (.agg #[.int .i64 y.1, .slice s2 y.2.length n2]), .is (.bool false), .is (.bool true)] (by kernel_rfl) rfl (by kernel_rfl) (by kernel_rfl) (.cons ?qf_0 (.cons ?qf_1 (.cons ?qf_2 (.cons ?qf_3 (.cons ?qf_4 (.cons ?qf_5 (.cons ?qf_6 (.cons ?qf_7 (.cons ?qf_8 (.cons ?qf_9 .nil)))))))))) ?qf_fin
          case qf_0 =>
            intro wq hbw st  K hK
            have KQ := KW.out.trans (hbw.mono KW.out.size)
            simp only [Act.put, List.setIfInBounds_toArray, List.set_cons_zero, List.set_cons_succ] at hK ⊢
            unfold opStep
            rw [if_pos (by rfl)]
            go_simp
            exact hK.out _ _ (Below.refl _ _) rfl _ rfl
          case qf_1 =>
            intro wq hbw st  K hK
            have KQ := KW.out.trans (hbw.mono KW.out.size)
            simp only [Act.put, List.setIfInBounds_toArray, List.set_cons_zero, List.set_cons_succ] at hK ⊢
            unfold opStep
            rw [if_pos (by rfl)]
            go_simp
            exact hK.out _ _ (Below.refl _ _) rfl _ rfl
          case qf_2 =>
            intro wq hbw st  K hK
            have KQ := KW.out.trans (hbw.mono KW.out.size)
            simp only [Act.put, List.setIfInBounds_toArray, List.set_cons_zero, List.set_cons_succ] at hK ⊢
            unfold opStep
            rw [if_pos (by rfl)]
            go_simp
            exact hK.out _ _ (Below.refl _ _) rfl _ rfl
          case qf_3 =>
            intro wq hbw st  K hK
            have KQ := KW.out.trans (hbw.mono KW.out.size)
            simp only [Act.put, List.setIfInBounds_toArray, List.set_cons_zero, List.set_cons_succ] at hK ⊢
            unfold opStep
            rw [if_pos (by rfl)]
            have dd := Lib.hid (HX.out.1 _ KQ)
            have d0 := dd.out.1
            have d1 := dd.out.2
            go_simp
            exact hK.out _ _ (Below.refl _ _) rfl _ rfl
          case qf_4 =>
            intro wq hbw st  K hK
            have KQ := KW.out.trans (hbw.mono KW.out.size)
            simp only [Act.put, List.setIfInBounds_toArray, List.set_cons_zero, List.set_cons_succ] at hK ⊢
            unfold opStep
            rw [if_pos (by rfl)]
            go_simp
            exact hK.out _ _ (Below.refl _ _) rfl _ rfl
          case qf_5 =>
            intro wq hbw st  K hK
            have KQ := KW.out.trans (hbw.mono KW.out.size)
            simp only [Act.put, List.setIfInBounds_toArray, List.set_cons_zero, List.set_cons_succ] at hK ⊢
            unfold opStep
            rw [if_pos (by rfl)]
            go_simp
            exact hK.out _ _ (Below.refl _ _) rfl _ rfl
          case qf_6 =>
            intro wq hbw st  K hK
            have KQ := KW.out.trans (hbw.mono KW.out.size)
            simp only [Act.put, List.setIfInBounds_toArray, List.set_cons_zero, List.set_cons_succ] at hK ⊢
            unfold opStep
            rw [if_pos (by rfl)]
            go_simp
            exact hK.out _ _ (Below.refl _ _) rfl _ rfl
          case qf_7 =>
            intro wq hbw st  K hK
            have KQ := KW.out.trans (hbw.mono KW.out.size)
            simp only [Act.put, List.setIfInBounds_toArray, List.set_cons_zero, List.set_cons_succ] at hK ⊢
            unfold opStep
            rw [if_pos (by rfl)]
            have dd := Lib.hid (HY.out.1 _ KQ)
            have d0 := dd.out.1
            have d1 := dd.out.2
            go_simp
            exact hK.out _ _ (Below.refl _ _) rfl _ rfl
          case qf_8 =>
            intro wq hbw st  K hK
            have KQ := KW.out.trans (hbw.mono KW.out.size)
            simp only [Act.put, List.setIfInBounds_toArray, List.set_cons_zero, List.set_cons_succ] at hK ⊢
            unfold opStep
            rw [if_pos (by rfl)]
            go_simp
            have hpc := rsame_any _ _ x y wq ⟨_, rfl, HX.out.2.keep KQ⟩ ⟨_, rfl, HY.out.2.keep KQ⟩
            rw [HD.out] at hpc
            refine hpc.mono ?_
            rintro e wz ⟨rfl, hbz⟩
            go_simp
            exact hK.out _ _ hbz rfl _ rfl
          case qf_9 =>
            intro wq hbw st  K hK
            have KQ := KW.out.trans (hbw.mono KW.out.size)
            simp only [Act.put, List.setIfInBounds_toArray, List.set_cons_zero, List.set_cons_succ] at hK ⊢
            unfold opStep
            rw [if_pos (by rfl)]
            go_simp
            exact hK.out _ _ (Below.refl _ _) rfl _ rfl
          case qf_fin =>
            intro wq hbw
            try simp only [FinAll]
            simp only [Act.put, List.setIfInBounds_toArray, List.set_cons_zero, List.set_cons_succ]
            replace KW := Lib.hid (KW.out.trans (hbw.mono KW.out.size))
            clear hbw
            go_wp2
            go_ret
            exact ⟨ret_bool HF.out.symm, KW.out⟩
      · have hkk : k = a.length := by omega
        subst hkk
        have HF := Lib.hid (HYES.out fun j hj hj2 => HALL.out j hj hj2 hj)
        go_wp2
        go_ret
        exact ⟨ret_bool HF.out.symm, KW.out⟩
  · have HF : Hid (decide (a = b) = false) := Lib.hid (decide_eq_false fun e => hlen (by rw [e]))
    have hib : ((a.length : Int) != (b.length : Int)) = true := by simp; omega
    go_enter Try.func16, Try.ntmps16
    go_wp2
    go_ret
    exact ⟨ret_bool HF.out.symm, Below.refl _ _⟩
end Go.Proofs.Ytfdicndmebhmdaa
