/-
  Chapter 55: find and Check of the reference.
-/
import Derived.Test.YtjijlhjggpibjaaGreatGt
import Derived.Test.YtjijlhjggpibjaaGreatJc
namespace Go.Proofs.YtjijlhjggpibjaaGreat
open Go.RowKit

section
variable {h : List Opn}
theorem refP_some {r i k : Nat} (hi : i < h.length) (hk : k < h.length) (h1 : ∀ i' k', i' < i → k' < h.length → holdB r (nth h i') (nth h k') dfZ = false) (h2 : ∀ k', k' < k → holdB r (nth h i) (nth h k') dfZ = false) (h3 : holdB r (nth h i) (nth h k) dfZ = true) : refP h r = some (i, k) := by
  have := pair_some (A := List.range h.length) (B := List.range h.length) (P := fun i k => holdB r (nth h i) (nth h k) dfZ) (a := i) (b := k) (by simpa using hi) (by simpa using hk)
    (fun a' h' hlt y hy => by rw [List.getElem_range]; exact h1 a' y hlt (List.mem_range.1 hy)) (fun b' h' hlt => by rw [List.getElem_range, List.getElem_range]; exact h2 b' hlt) (by rw [List.getElem_range, List.getElem_range]; exact h3)
  rw [List.getElem_range, List.getElem_range] at this
  exact this
theorem refP_none {r : Nat} (h1 : ∀ i' k', i' < h.length → k' < h.length → holdB r (nth h i') (nth h k') dfZ = false) : refP h r = none :=
  pair_none.2 fun x hx y hy => h1 x y (List.mem_range.1 hx) (List.mem_range.1 hy)
theorem refU_some {i : Nat} (hi : i < h.length) (h1 : ∀ i', i' < i → (rdO (nth h i') && unkO h (nth h i')) = false) (h2 : (rdO (nth h i) && unkO h (nth h i)) = true) : refU h = some i := by
  have := find_at (A := List.range h.length) (P := fun i => rdO (nth h i) && unkO h (nth h i)) (a := i) (by simpa using hi) (fun a' h' hlt => by rw [List.getElem_range]; exact h1 a' hlt) (by rw [List.getElem_range]; exact h2)
  rw [List.getElem_range] at this
  exact this
theorem refU_none (h1 : ∀ i', i' < h.length → (rdO (nth h i') && unkO h (nth h i')) = false) : refU h = none := by
  unfold refU
  rw [find_congr (q := fun _ => false) fun x hx => h1 x (List.mem_range.1 hx)]
  exact find_never _
theorem refT_some {u w r : Nat} (hu : u < h.length) (hw : w < h.length) (hr : r < h.length) (h1 : ∀ u' w' r', u' < u → w' < h.length → r' < h.length → holdB 8 (nth h u') (nth h w') (nth h r') = false) (h2 : ∀ w' r', w' < w → r' < h.length → holdB 8 (nth h u) (nth h w') (nth h r') = false) (h3 : ∀ r', r' < r → holdB 8 (nth h u) (nth h w) (nth h r') = false) (h4 : holdB 8 (nth h u) (nth h w) (nth h r) = true) : refT h = some (u, w, r) := by
  unfold refT
  refine some_at (a := u) (by simpa using hu) (fun a' h' hlt => ?_) ?_
  · rw [List.getElem_range, List.findSome?_eq_none_iff]
    intro w' hw'
    rw [find_congr (q := fun _ => false) fun x hx => h1 a' w' x hlt (List.mem_range.1 hw') (List.mem_range.1 hx), find_never]; rfl
  · rw [List.getElem_range]
    refine some_at (a := w) (by simpa using hw) (fun a' h' hlt => ?_) ?_
    · rw [List.getElem_range, find_congr (q := fun _ => false) fun x hx => h2 a' x hlt (List.mem_range.1 hx), find_never]; rfl
    · rw [List.getElem_range]
      have := find_at (A := List.range h.length) (P := fun r => holdB 8 (nth h u) (nth h w) (nth h r)) (a := r) (by simpa using hr) (fun a' h' hlt => by rw [List.getElem_range]; exact h3 a' hlt) (by rw [List.getElem_range]; exact h4)
      rw [this, List.getElem_range]; rfl
theorem refT_none (h1 : ∀ u' w' r', u' < h.length → w' < h.length → r' < h.length → holdB 8 (nth h u') (nth h w') (nth h r') = false) : refT h = none := by
  unfold refT
  rw [List.findSome?_eq_none_iff]
  intro u hu
  rw [List.findSome?_eq_none_iff]
  intro w hw
  rw [find_congr (q := fun _ => false) fun x hx => h1 u w x (List.mem_range.1 hu) (List.mem_range.1 hw) (List.mem_range.1 hx), find_never]; rfl
end
theorem fit_of {h : List Opn} (hs : SmallH h) {i : Nat} (hi : i < h.length) : fitO h[i] := ⟨(hs.2 _ (List.getElem_mem hi)).1, (hs.2 _ (List.getElem_mem hi)).2.1⟩
theorem made_lit {W w : World} {xs : List Int} {cs : Array Value} (hb : Below W.heap.size W w) (hc : cs = (xs.map vi).toArray) (hl : xs.length ≤ 3) : MadeI W xs (.returned (.slice (some ⟨w.heap.size, 0, none⟩) xs.length xs.length)) (w.alloc (.cells cs 3)) :=
  ⟨_, rfl, blk_reads (Blk.new w _ _) hc (by omega), hb.alloc hb.size _⟩
theorem made_nil {W w : World} {xs : List Int} (hx : xs = []) (hb : Below W.heap.size W w) : MadeI W xs (.returned (.slice none 0 0)) w := by subst hx; exact ⟨_, rfl, Reads.nil _, hb⟩
set_option maxRecDepth 100000 in
set_option maxHeartbeats 16000000 in
theorem find2_any (v : Value) (h : List Opn) (W : World) (hr : ReadsO W v h) (hs : SmallH h) : Calls Tryz.prog 32 #[v, .int .i64 2] W (MadeI W (refF h 2)) := by
  have HR := Lib.hid hr
  have HS := Lib.hid hs
  have hn := hs.1
  obtain ⟨ao, cap, rfl, hl, hm, -, -⟩ := hr
  unfold maxLen at hm
  clear hs
  have HST : Hid (∀ i (hi : i < h.length), ∀ s ∈ seeO h[i], s.length ≤ maxLen) := Lib.hid fun i hi => (HS.out.2 _ (List.getElem_mem hi)).2.2.2
  go_enter Tryz.func32, Tryz.ntmps32
  go_wp2
  go_loopg [5] h.length (fun m i wr => ∃ x : Nat, m + x = h.length ∧ i = .int .i64 ((x : Nat) : Int) ∧ Below W.heap.size W wr ∧ ∀ i', i' < x → (rdO (nth h i') && unkO h (nth h i')) = false)
  case atStart => exact ⟨0, by omega, rfl, Below.refl _ _, fun i hi => by omega⟩
  case round =>
    obtain ⟨x, hmx, rfl, hbel, hall⟩ := hrel
    have HM := Lib.hid hmx
    have KW := Lib.hid hbel
    have HALL := Lib.hid hall
    have hx : x ≤ h.length := by omega
    clear hmx hbel hall
    by_cases hxl : x < h.length
    · obtain ⟨b, off, cap1, a4, c4, a5, c5, hv, _, _, hm4, hm5, hl4, hl5, hcell, r1, r2⟩ := HR.out.at2 hxl
      injection hv with e1 e2 e3
      subst e1
      have hxi : (x : Int) < h.length := by omega
      have hx0 : (0 : Int) ≤ (x : Int) := by omega
      obtain ⟨d0, d1, d2, d3, d4, d5⟩ := hcell wr KW.out
      have HN := Lib.hid (And.intro hcell (And.intro r1 r2))
      have HFIT := Lib.hid (fit_of HS.out hxl)
      have HSX := Lib.hid (HST.out x hxl)
      have HYE : Hid ((rdO h[x] && unkO h h[x]) = true → refF h 2 = [(x : Int)]) := Lib.hid fun q => by
        rw [refF_2, refU_some hxl HALL.out (by rw [nth_eq hxl]; exact q)]
      have HNX : Hid ((rdO h[x] && unkO h h[x]) = false → ∀ i', i' < x + 1 → (rdO (nth h i') && unkO h (nth h i')) = false) := Lib.hid fun q i' hi' => by
        by_cases e : i' = x
        · subst e; rw [nth_eq hxl]; exact q
        · exact HALL.out i' (by omega)
      clear e2 e3 hcell r1 r2 hm4 hm5 hl4 hl5
      generalize h[x] = x0 at *
      clear hxl
      go_wp2_with fail
      refine (rread_any _ x0 _ ⟨_, _, rfl, HN.out.2.1.keep KW.out, HN.out.2.2.keep KW.out⟩).mono ?_
      rintro e w1 ⟨rfl, hb⟩
      replace KW := Lib.hid (KW.out.trans (hb.mono KW.out.size))
      clear hb d0 d1 d2 d3 d4 d5
      cases h1 : rdO x0 with
      | false =>
        have HG := Lib.hid (HNX.out (by rw [h1]; rfl))
        clear h1
        go_wp2
        refine wp_loop_rounds 1 ?_
        rw [rounds_succ]
        go_wp2
        go_roundg (h.length - (x + 1))
        case measure => have := HM.out; omega
        case rel => exact ⟨x + 1, by omega, by go_num, KW.out, HG.out⟩
      | true =>
        obtain ⟨d0, d1, d2, d3, d4, d5⟩ := HN.out.1 w1 KW.out
        go_wp2_with fail
        refine (unknown_any _ _ h x0 _ (HR.out.on KW.out) ⟨_, _, rfl, HN.out.2.1.keep KW.out, HN.out.2.2.keep KW.out⟩ HS.out HFIT.out HSX.out).mono ?_
        rintro e w2 ⟨rfl, hb⟩
        replace KW := Lib.hid (KW.out.trans (hb.mono KW.out.size))
        clear hb d0 d1 d2 d3 d4 d5
        cases h2 : unkO h x0 with
        | false =>
          have HG := Lib.hid (HNX.out (by rw [h1, h2]; rfl))
          clear h1 h2
          go_wp2
          refine wp_loop_rounds 1 ?_
          rw [rounds_succ]
          go_wp2
          go_roundg (h.length - (x + 1))
          case measure => have := HM.out; omega
          case rel => exact ⟨x + 1, by omega, by go_num, KW.out, HG.out⟩
        | true =>
          have HE := Lib.hid (HYE.out (by rw [h1, h2]; rfl))
          clear h1 h2
          go_wp2
          go_ret
          rw [HE.out]
          exact made_lit (xs := [(x : Int)]) KW.out rfl (by simp)
    · have HE : Hid (refF h 2 = []) := Lib.hid (by rw [refF_2, refU_none fun i hi => HALL.out i (by omega)])
      go_wp2
      go_ret
      exact made_nil HE.out KW.out
set_option maxRecDepth 100000 in
set_option maxHeartbeats 16000000 in
theorem findP_any (v : Value) (h : List Opn) (r : Nat) (h3 : 3 ≤ r) (h7 : r ≤ 7) (W : World) (hr : ReadsO W v h) (hs : SmallH h) : Calls Tryz.prog 32 #[v, .int .i64 (r : Int)] W (MadeI W (refF h r)) := by
  have HR := Lib.hid hr
  have HS := Lib.hid hs
  have hn := hs.1
  obtain ⟨ao, cap, rfl, hl, hm, -, -⟩ := hr
  unfold maxLen at hm
  clear hs
  have h8 : r ≤ 8 := by omega
  have q1 : ((r : Int) == 2) = false := beq_eq_false_iff_ne.2 (by omega)
  have q2 : ((r : Int) != 2) = true := bne_iff_ne.2 (by omega)
  have q3 : ((r : Int) != 8) = true := bne_iff_ne.2 (by omega)
  have HRF := Lib.hid (refF_p (h := h) (r := r) (by omega) (by omega))
  have mixed : Tryz.prog.follows .mixedOrders = true := by kernel_rfl
  go_enter Tryz.func32, Tryz.ntmps32
  go_wp2
  go_loopg [5] h.length (fun m i wr => ∃ x : Nat, m + x = h.length ∧ i = .int .i64 ((x : Nat) : Int) ∧ Below W.heap.size W wr ∧ ∀ i' k', i' < x → k' < h.length → holdB r (nth h i') (nth h k') dfZ = false)
  case atStart => exact ⟨0, by omega, rfl, Below.refl _ _, fun i k hi => by omega⟩
  case round =>
    obtain ⟨x, hmx, rfl, hbel, hall⟩ := hrel
    have HM := Lib.hid hmx
    have KW := Lib.hid hbel
    have HALL := Lib.hid hall
    have hx : x ≤ h.length := by omega
    clear hmx hbel hall
    by_cases hxl : x < h.length
    · obtain ⟨b, off, cap1, a4, c4, a5, c5, hv, _, _, hm4, hm5, hl4, hl5, hcell, r1, r2⟩ := HR.out.at2 hxl
      injection hv with e1 e2 e3
      subst e1
      have hxi : (x : Int) < h.length := by omega
      have hx0 : (0 : Int) ≤ (x : Int) := by omega
      have HN := Lib.hid (And.intro hcell (And.intro r1 r2))
      have FX := Lib.hid (fit_of HS.out hxl)
      have HNX : Hid (nth h x = h[x]) := Lib.hid (nth_eq hxl)
      have HXL := Lib.hid (And.intro hxl trivial)
      clear e2 e3 hcell r1 r2 hm4 hm5 hl4 hl5
      generalize h[x] = x0 at *
      clear hxl
      go_wp2
      obtain ⟨wo, hwo⟩ : ∃ x, x = wr := ⟨_, rfl⟩
      rw [← hwo] at KW ⊢
      clear hwo
      obtain ⟨G4, hG4⟩ : ∃ G, G = gk := ⟨_, rfl⟩
      subst hG4
      go_loopg [6] h.length (fun m i wr => ∃ z : Nat, m + z = h.length ∧ i = .int .i64 ((z : Nat) : Int) ∧ Below W.heap.size W wr ∧ ∀ k', k' < z → holdB r (nth h x) (nth h k') dfZ = false)
      case atStart => exact ⟨0, by omega, rfl, KW.out, fun k hk => by omega⟩
      case round =>
        clear KW
        obtain ⟨z, hmz, rfl, hbel, hrow⟩ := hrel
        have HM4 := Lib.hid hmz
        have KW := Lib.hid hbel
        have HROW := Lib.hid hrow
        have hz : z ≤ h.length := by omega
        clear hmz hbel hrow
        by_cases hzl : z < h.length
        · obtain ⟨b', off', cap2', d4, k4, d5, k5, hv, _, _, n4, n5, l4, l5, hcell, s1', s2'⟩ := HR.out.at2 hzl
          injection hv with e5 e6 e7
          injection e5 with e5
          injection e5 with e5 e8
          subst e5 e8
          have hzi : (z : Int) < h.length := by omega
          have hz0 : (0 : Int) ≤ (z : Int) := by omega
          have HN2 := Lib.hid (And.intro hcell (And.intro s1' s2'))
          have FY := Lib.hid (fit_of HS.out hzl)
          have HNZ : Hid (nth h z = h[z]) := Lib.hid (nth_eq hzl)
          have HZL := Lib.hid (And.intro hzl trivial)
          clear e6 e7 hcell s1' s2' n4 n5 l4 l5
          generalize h[z] = y0 at *
          clear hzl
          have HYE : Hid (holdB r x0 y0 dfZ = true → refF h r = [(x : Int), (z : Int)]) := Lib.hid fun q => by
            rw [HRF.out, refP_some HXL.out.1 HZL.out.1 HALL.out HROW.out (by rw [HNX.out, HNZ.out]; exact q)]
          have HGO : Hid (holdB r x0 y0 dfZ = false → ∀ k', k' < z + 1 → holdB r (nth h x) (nth h k') dfZ = false) := Lib.hid fun q k' hk' => by
            by_cases e : k' = z
            · subst e; rw [HNX.out, HNZ.out]; exact q
            · exact HROW.out k' (by omega)
          cases hh : holdB r x0 y0 dfZ with
          | true =>
            have P1 := Lib.hid hh
            have HE := Lib.hid (HYE.out hh)
            clear hh HYE HGO
            go_upto_region 10 with fail
            refine region_left [.is (.int .i64 (r : Int)), .is (.slice (some ⟨b, off, none⟩) h.length cap), .is (.int .i64 (x : Int)), .is (.pointer (some ⟨b, off + x * 6, none⟩)), .is (.agg #[.int .i64 (cliO x0), .int .i64 (kindO x0), .int .i64 (begO x0), .int .i64 (endO x0), .slice a4 (addO x0).length c4, .slice a5 (seeO x0).length c5]), .is (.slice (some ⟨b, off, none⟩) h.length cap), .is (.int .i64 (z : Int)), .is (.pointer (some ⟨b, off + z * 6, none⟩)), .is (.agg #[.int .i64 (cliO y0), .int .i64 (kindO y0), .int .i64 (begO y0), .int .i64 (endO y0), .slice d4 (addO y0).length k4, .slice d5 (seeO y0).length k5]), .is (.agg #[.int .i64 0, .int .i64 0, .int .i64 0, .int .i64 0, .slice none 0 0, .slice none 0 0]), .is (.bool true)] (by kernel_rfl) rfl (by kernel_rfl) (by kernel_rfl) (.cons ?r1_0 (.cons ?r1_1 (.cons ?r1_2 (.cons ?r1_3 (.cons ?r1_4 (.cons ?r1_5 (.cons ?r1_6 (.cons ?r1_7 (.cons ?r1_8 (.cons ?r1_9 (.cons ?r1_10 .nil))))))))))) ?r1_fin
            case r1_0 =>
              intro wq hbw st  K hK
              have KQ := KW.out.trans (hbw.mono KW.out.size)
              simp only [Act.put, List.setIfInBounds_toArray, List.set_cons_zero, List.set_cons_succ] at hK ⊢
              unfold opStep
              rw [if_pos (by rfl)]
              go_simp
              exact hK.out _ _ (Below.refl _ _) rfl _ rfl
            case r1_1 =>
              intro wq hbw st  K hK
              have KQ := KW.out.trans (hbw.mono KW.out.size)
              simp only [Act.put, List.setIfInBounds_toArray, List.set_cons_zero, List.set_cons_succ] at hK ⊢
              unfold opStep
              rw [if_pos (by rfl)]
              go_simp
              exact hK.out _ _ (Below.refl _ _) rfl _ rfl
            case r1_2 =>
              intro wq hbw st  K hK
              have KQ := KW.out.trans (hbw.mono KW.out.size)
              simp only [Act.put, List.setIfInBounds_toArray, List.set_cons_zero, List.set_cons_succ] at hK ⊢
              unfold opStep
              rw [if_pos (by rfl)]
              go_simp
              exact hK.out _ _ (Below.refl _ _) rfl _ rfl
            case r1_3 =>
              intro wq hbw st  K hK
              have KQ := KW.out.trans (hbw.mono KW.out.size)
              simp only [Act.put, List.setIfInBounds_toArray, List.set_cons_zero, List.set_cons_succ] at hK ⊢
              unfold opStep
              rw [if_pos (by rfl)]
              go_simp
              exact hK.out _ _ (Below.refl _ _) rfl _ rfl
            case r1_4 =>
              intro wq hbw st  K hK
              have KQ := KW.out.trans (hbw.mono KW.out.size)
              simp only [Act.put, List.setIfInBounds_toArray, List.set_cons_zero, List.set_cons_succ] at hK ⊢
              unfold opStep
              rw [if_pos (by rfl)]
              have dd := Lib.hid (HN.out.1 wq KQ)
              have d0 := dd.out.1
              have d1 := dd.out.2.1
              have d2 := dd.out.2.2.1
              have d3 := dd.out.2.2.2.1
              have d4 := dd.out.2.2.2.2.1
              have d5 := dd.out.2.2.2.2.2
              go_simp
              exact hK.out _ _ (Below.refl _ _) rfl _ rfl
            case r1_5 =>
              intro wq hbw st  K hK
              have KQ := KW.out.trans (hbw.mono KW.out.size)
              simp only [Act.put, List.setIfInBounds_toArray, List.set_cons_zero, List.set_cons_succ] at hK ⊢
              unfold opStep
              rw [if_pos (by rfl)]
              go_simp
              exact hK.out _ _ (Below.refl _ _) rfl _ rfl
            case r1_6 =>
              intro wq hbw st  K hK
              have KQ := KW.out.trans (hbw.mono KW.out.size)
              simp only [Act.put, List.setIfInBounds_toArray, List.set_cons_zero, List.set_cons_succ] at hK ⊢
              unfold opStep
              rw [if_pos (by rfl)]
              go_simp
              exact hK.out _ _ (Below.refl _ _) rfl _ rfl
            case r1_7 =>
              intro wq hbw st  K hK
              have KQ := KW.out.trans (hbw.mono KW.out.size)
              simp only [Act.put, List.setIfInBounds_toArray, List.set_cons_zero, List.set_cons_succ] at hK ⊢
              unfold opStep
              rw [if_pos (by rfl)]
              go_simp
              exact hK.out _ _ (Below.refl _ _) rfl _ rfl
            case r1_8 =>
              intro wq hbw st  K hK
              have KQ := KW.out.trans (hbw.mono KW.out.size)
              simp only [Act.put, List.setIfInBounds_toArray, List.set_cons_zero, List.set_cons_succ] at hK ⊢
              unfold opStep
              rw [if_pos (by rfl)]
              have dd := Lib.hid (HN2.out.1 wq KQ)
              have d0 := dd.out.1
              have d1 := dd.out.2.1
              have d2 := dd.out.2.2.1
              have d3 := dd.out.2.2.2.1
              have d4 := dd.out.2.2.2.2.1
              have d5 := dd.out.2.2.2.2.2
              go_simp
              exact hK.out _ _ (Below.refl _ _) rfl _ rfl
            case r1_9 =>
              intro wq hbw st  K hK
              have KQ := KW.out.trans (hbw.mono KW.out.size)
              simp only [Act.put, List.setIfInBounds_toArray, List.set_cons_zero, List.set_cons_succ] at hK ⊢
              unfold opStep
              rw [if_pos (by rfl)]
              go_simp
              exact hK.out _ _ (Below.refl _ _) rfl _ rfl
            case r1_10 =>
              intro wq hbw st  K hK
              have KQ := KW.out.trans (hbw.mono KW.out.size)
              simp only [Act.put, List.setIfInBounds_toArray, List.set_cons_zero, List.set_cons_succ] at hK ⊢
              unfold opStep
              rw [if_pos (by rfl)]
              go_simp
              have hpc := holds_any r h3 h8 _ _ _ x0 y0 dfZ wq ⟨_, _, rfl, HN.out.2.1.keep KQ, HN.out.2.2.keep KQ⟩ ⟨_, _, rfl, HN2.out.2.1.keep KQ, HN2.out.2.2.keep KQ⟩ ⟨_, _, rfl, Reads.nil _, Reads.nil _⟩ FX.out FY.out ⟨Nat.zero_le _, Nat.zero_le _⟩
              rw [P1.out] at hpc
              refine hpc.mono ?_
              rintro e wz ⟨rfl, hbz⟩
              go_simp
              exact hK.out _ _ hbz rfl _ rfl
            case r1_fin =>
              intro wq hbw
              try simp only [FinAll]
              simp only [Act.put, List.setIfInBounds_toArray, List.set_cons_zero, List.set_cons_succ]
              replace KW := Lib.hid (KW.out.trans (hbw.mono KW.out.size))
              clear hbw
              go_wp2
              go_ret
              rw [HE.out]
              exact made_lit (xs := [(x : Int), (z : Int)]) KW.out rfl (by simp)
          | false =>
            have P1 := Lib.hid hh
            have HG := Lib.hid (HGO.out hh)
            clear hh HYE HGO
            go_upto_region 10 with fail
            refine region_left [.is (.int .i64 (r : Int)), .is (.slice (some ⟨b, off, none⟩) h.length cap), .is (.int .i64 (x : Int)), .is (.pointer (some ⟨b, off + x * 6, none⟩)), .is (.agg #[.int .i64 (cliO x0), .int .i64 (kindO x0), .int .i64 (begO x0), .int .i64 (endO x0), .slice a4 (addO x0).length c4, .slice a5 (seeO x0).length c5]), .is (.slice (some ⟨b, off, none⟩) h.length cap), .is (.int .i64 (z : Int)), .is (.pointer (some ⟨b, off + z * 6, none⟩)), .is (.agg #[.int .i64 (cliO y0), .int .i64 (kindO y0), .int .i64 (begO y0), .int .i64 (endO y0), .slice d4 (addO y0).length k4, .slice d5 (seeO y0).length k5]), .is (.agg #[.int .i64 0, .int .i64 0, .int .i64 0, .int .i64 0, .slice none 0 0, .slice none 0 0]), .is (.bool false)] (by kernel_rfl) rfl (by kernel_rfl) (by kernel_rfl) (.cons ?r2_0 (.cons ?r2_1 (.cons ?r2_2 (.cons ?r2_3 (.cons ?r2_4 (.cons ?r2_5 (.cons ?r2_6 (.cons ?r2_7 (.cons ?r2_8 (.cons ?r2_9 (.cons ?r2_10 .nil))))))))))) ?r2_fin
            case r2_0 =>
              intro wq hbw st  K hK
              have KQ := KW.out.trans (hbw.mono KW.out.size)
              simp only [Act.put, List.setIfInBounds_toArray, List.set_cons_zero, List.set_cons_succ] at hK ⊢
              unfold opStep
              rw [if_pos (by rfl)]
              go_simp
              exact hK.out _ _ (Below.refl _ _) rfl _ rfl
            case r2_1 =>
              intro wq hbw st  K hK
              have KQ := KW.out.trans (hbw.mono KW.out.size)
              simp only [Act.put, List.setIfInBounds_toArray, List.set_cons_zero, List.set_cons_succ] at hK ⊢
              unfold opStep
              rw [if_pos (by rfl)]
              go_simp
              exact hK.out _ _ (Below.refl _ _) rfl _ rfl
            case r2_2 =>
              intro wq hbw st  K hK
              have KQ := KW.out.trans (hbw.mono KW.out.size)
              simp only [Act.put, List.setIfInBounds_toArray, List.set_cons_zero, List.set_cons_succ] at hK ⊢
              unfold opStep
              rw [if_pos (by rfl)]
              go_simp
              exact hK.out _ _ (Below.refl _ _) rfl _ rfl
            case r2_3 =>
              intro wq hbw st  K hK
              have KQ := KW.out.trans (hbw.mono KW.out.size)
              simp only [Act.put, List.setIfInBounds_toArray, List.set_cons_zero, List.set_cons_succ] at hK ⊢
              unfold opStep
              rw [if_pos (by rfl)]
              go_simp
              exact hK.out _ _ (Below.refl _ _) rfl _ rfl
            case r2_4 =>
              intro wq hbw st  K hK
              have KQ := KW.out.trans (hbw.mono KW.out.size)
              simp only [Act.put, List.setIfInBounds_toArray, List.set_cons_zero, List.set_cons_succ] at hK ⊢
              unfold opStep
              rw [if_pos (by rfl)]
              have dd := Lib.hid (HN.out.1 wq KQ)
              have d0 := dd.out.1
              have d1 := dd.out.2.1
              have d2 := dd.out.2.2.1
              have d3 := dd.out.2.2.2.1
              have d4 := dd.out.2.2.2.2.1
              have d5 := dd.out.2.2.2.2.2
              go_simp
              exact hK.out _ _ (Below.refl _ _) rfl _ rfl
            case r2_5 =>
              intro wq hbw st  K hK
              have KQ := KW.out.trans (hbw.mono KW.out.size)
              simp only [Act.put, List.setIfInBounds_toArray, List.set_cons_zero, List.set_cons_succ] at hK ⊢
              unfold opStep
              rw [if_pos (by rfl)]
              go_simp
              exact hK.out _ _ (Below.refl _ _) rfl _ rfl
            case r2_6 =>
              intro wq hbw st  K hK
              have KQ := KW.out.trans (hbw.mono KW.out.size)
              simp only [Act.put, List.setIfInBounds_toArray, List.set_cons_zero, List.set_cons_succ] at hK ⊢
              unfold opStep
              rw [if_pos (by rfl)]
              go_simp
              exact hK.out _ _ (Below.refl _ _) rfl _ rfl
            case r2_7 =>
              intro wq hbw st  K hK
              have KQ := KW.out.trans (hbw.mono KW.out.size)
              simp only [Act.put, List.setIfInBounds_toArray, List.set_cons_zero, List.set_cons_succ] at hK ⊢
              unfold opStep
              rw [if_pos (by rfl)]
              go_simp
              exact hK.out _ _ (Below.refl _ _) rfl _ rfl
            case r2_8 =>
              intro wq hbw st  K hK
              have KQ := KW.out.trans (hbw.mono KW.out.size)
              simp only [Act.put, List.setIfInBounds_toArray, List.set_cons_zero, List.set_cons_succ] at hK ⊢
              unfold opStep
              rw [if_pos (by rfl)]
              have dd := Lib.hid (HN2.out.1 wq KQ)
              have d0 := dd.out.1
              have d1 := dd.out.2.1
              have d2 := dd.out.2.2.1
              have d3 := dd.out.2.2.2.1
              have d4 := dd.out.2.2.2.2.1
              have d5 := dd.out.2.2.2.2.2
              go_simp
              exact hK.out _ _ (Below.refl _ _) rfl _ rfl
            case r2_9 =>
              intro wq hbw st  K hK
              have KQ := KW.out.trans (hbw.mono KW.out.size)
              simp only [Act.put, List.setIfInBounds_toArray, List.set_cons_zero, List.set_cons_succ] at hK ⊢
              unfold opStep
              rw [if_pos (by rfl)]
              go_simp
              exact hK.out _ _ (Below.refl _ _) rfl _ rfl
            case r2_10 =>
              intro wq hbw st  K hK
              have KQ := KW.out.trans (hbw.mono KW.out.size)
              simp only [Act.put, List.setIfInBounds_toArray, List.set_cons_zero, List.set_cons_succ] at hK ⊢
              unfold opStep
              rw [if_pos (by rfl)]
              go_simp
              have hpc := holds_any r h3 h8 _ _ _ x0 y0 dfZ wq ⟨_, _, rfl, HN.out.2.1.keep KQ, HN.out.2.2.keep KQ⟩ ⟨_, _, rfl, HN2.out.2.1.keep KQ, HN2.out.2.2.keep KQ⟩ ⟨_, _, rfl, Reads.nil _, Reads.nil _⟩ FX.out FY.out ⟨Nat.zero_le _, Nat.zero_le _⟩
              rw [P1.out] at hpc
              refine hpc.mono ?_
              rintro e wz ⟨rfl, hbz⟩
              go_simp
              exact hK.out _ _ hbz rfl _ rfl
            case r2_fin =>
              intro wq hbw
              try simp only [FinAll]
              simp only [Act.put, List.setIfInBounds_toArray, List.set_cons_zero, List.set_cons_succ]
              have K3 := Lib.hid (KW.out.trans (hbw.mono KW.out.size))
              clear hbw
              go_wp2
              go_roundg (h.length - (z + 1))
              case measure => have := HM4.out; omega
              case rel => exact ⟨z + 1, by omega, by go_num, K3.out, HG.out⟩
        · have HG : Hid (∀ i' k', i' < x + 1 → k' < h.length → holdB r (nth h i') (nth h k') dfZ = false) := Lib.hid fun i' k' hi' hk' => by
            by_cases e : i' = x
            · subst e; exact HROW.out k' (by omega)
            · exact HALL.out i' k' (by omega) hk'
          clear HROW HM4
          go_wp2
          go_roundg (h.length - (x + 1))
          case measure => have := HM.out; omega
          case rel => exact ⟨x + 1, by omega, by go_num, KW.out, HG.out⟩
    · have HE : Hid (refF h r = []) := Lib.hid (by rw [HRF.out, refP_none fun i k hi hk => HALL.out i k (by omega) hk])
      go_wp2
      go_ret
      exact made_nil HE.out KW.out
set_option maxRecDepth 100000 in
set_option maxHeartbeats 16000000 in
theorem find8_any (v : Value) (h : List Opn) (W : World) (hr : ReadsO W v h) (hs : SmallH h) : Calls Tryz.prog 32 #[v, .int .i64 8] W (MadeI W (refF h 8)) := by
  have HR := Lib.hid hr
  have HS := Lib.hid hs
  have hn := hs.1
  obtain ⟨ao, cap, rfl, hl, hm, -, -⟩ := hr
  unfold maxLen at hm
  clear hs
  have mixed : Tryz.prog.follows .mixedOrders = true := by kernel_rfl
  go_enter Tryz.func32, Tryz.ntmps32
  go_wp2
  go_loopg [5] h.length (fun m i wr => ∃ x : Nat, m + x = h.length ∧ i = .int .i64 ((x : Nat) : Int) ∧ Below W.heap.size W wr ∧ ∀ u' w' r', u' < x → w' < h.length → r' < h.length → holdB 8 (nth h u') (nth h w') (nth h r') = false)
  case atStart => exact ⟨0, by omega, rfl, Below.refl _ _, fun u w r hu => by omega⟩
  case round =>
    obtain ⟨x, hmx, rfl, hbel, hall⟩ := hrel
    have HM := Lib.hid hmx
    have KW := Lib.hid hbel
    have HALL := Lib.hid hall
    have hx : x ≤ h.length := by omega
    clear hmx hbel hall
    by_cases hxl : x < h.length
    · obtain ⟨b, off, cap1, a4, c4, a5, c5, hv, _, _, hm4, hm5, hl4, hl5, hcell, r1, r2⟩ := HR.out.at2 hxl
      injection hv with e1 e2 e3
      subst e1
      have hxi : (x : Int) < h.length := by omega
      have hx0 : (0 : Int) ≤ (x : Int) := by omega
      have HN := Lib.hid (And.intro hcell (And.intro r1 r2))
      have FX := Lib.hid (fit_of HS.out hxl)
      have HNX : Hid (nth h x = h[x]) := Lib.hid (nth_eq hxl)
      have HXL := Lib.hid (And.intro hxl trivial)
      clear e2 e3 hcell r1 r2 hm4 hm5 hl4 hl5
      generalize h[x] = x0 at *
      clear hxl
      go_wp2
      obtain ⟨wo, hwo⟩ : ∃ x, x = wr := ⟨_, rfl⟩
      rw [← hwo] at KW ⊢
      clear hwo
      obtain ⟨G4, hG4⟩ : ∃ G, G = gk := ⟨_, rfl⟩
      subst hG4
      go_loopg [6] h.length (fun m i wr => ∃ z : Nat, m + z = h.length ∧ i = .int .i64 ((z : Nat) : Int) ∧ Below W.heap.size W wr ∧ ∀ w' r', w' < z → r' < h.length → holdB 8 (nth h x) (nth h w') (nth h r') = false)
      case atStart => exact ⟨0, by omega, rfl, KW.out, fun w r hw => by omega⟩
      case round =>
        clear KW
        obtain ⟨z, hmz, rfl, hbel, hrow⟩ := hrel
        have HM4 := Lib.hid hmz
        have KW := Lib.hid hbel
        have HROW := Lib.hid hrow
        have hz : z ≤ h.length := by omega
        clear hmz hbel hrow
        by_cases hzl : z < h.length
        · obtain ⟨b', off', cap2', d4, k4, d5, k5, hv, _, _, n4, n5, l4, l5, hcell, s1', s2'⟩ := HR.out.at2 hzl
          injection hv with e5 e6 e7
          injection e5 with e5
          injection e5 with e5 e8
          subst e5 e8
          have hzi : (z : Int) < h.length := by omega
          have hz0 : (0 : Int) ≤ (z : Int) := by omega
          have HN2 := Lib.hid (And.intro hcell (And.intro s1' s2'))
          have FY := Lib.hid (fit_of HS.out hzl)
          have HNZ : Hid (nth h z = h[z]) := Lib.hid (nth_eq hzl)
          have HZL := Lib.hid (And.intro hzl trivial)
          clear e6 e7 hcell s1' s2' n4 n5 l4 l5
          generalize h[z] = y0 at *
          clear hzl
          go_wp2
          obtain ⟨wo, hwo⟩ : ∃ x, x = wr := ⟨_, rfl⟩
          rw [← hwo] at KW ⊢
          clear hwo
          obtain ⟨G5, hG5⟩ : ∃ G, G = gk := ⟨_, rfl⟩
          subst hG5
          go_loopg [7] h.length (fun m i wr => ∃ j : Nat, m + j = h.length ∧ i = .int .i64 ((j : Nat) : Int) ∧ Below W.heap.size W wr ∧ ∀ r', r' < j → holdB 8 (nth h x) (nth h z) (nth h r') = false)
          case atStart => exact ⟨0, by omega, rfl, KW.out, fun r hr => by omega⟩
          case round =>
            clear KW
            obtain ⟨j, hmj, rfl, hbel, hlow⟩ := hrel
            have HM5 := Lib.hid hmj
            have KW := Lib.hid hbel
            have HLOW := Lib.hid hlow
            have hj : j ≤ h.length := by omega
            clear hmj hbel hlow
            by_cases hjl : j < h.length
            · obtain ⟨b', off', cap2', f4, m4, f5, m5, hv, _, _, n4, n5, l4, l5, hcell, s1', s2'⟩ := HR.out.at2 hjl
              injection hv with e5 e6 e7
              injection e5 with e5
              injection e5 with e5 e8
              subst e5 e8
              have hji : (j : Int) < h.length := by omega
              have hj0 : (0 : Int) ≤ (j : Int) := by omega
              have HN3 := Lib.hid (And.intro hcell (And.intro s1' s2'))
              have FZ := Lib.hid (fit_of HS.out hjl)
              have HNJ : Hid (nth h j = h[j]) := Lib.hid (nth_eq hjl)
              have HJL := Lib.hid (And.intro hjl trivial)
              clear e6 e7 hcell s1' s2' n4 n5 l4 l5
              generalize h[j] = z0 at *
              clear hjl
              have HYE : Hid (holdB 8 x0 y0 z0 = true → refF h 8 = [(x : Int), (z : Int), (j : Int)]) := Lib.hid fun q => by
                rw [refF_8, refT_some HXL.out.1 HZL.out.1 HJL.out.1 HALL.out HROW.out HLOW.out (by rw [HNX.out, HNZ.out, HNJ.out]; exact q)]
              have HGO : Hid (holdB 8 x0 y0 z0 = false → ∀ r', r' < j + 1 → holdB 8 (nth h x) (nth h z) (nth h r') = false) := Lib.hid fun q k' hk' => by
                by_cases e : k' = j
                · subst e; rw [HNX.out, HNZ.out, HNJ.out]; exact q
                · exact HLOW.out k' (by omega)
              cases hh : holdB 8 x0 y0 z0 with
              | true =>
                have P1 := Lib.hid hh
                have HE := Lib.hid (HYE.out hh)
                clear hh HYE HGO
                go_upto_region 15 with fail
                refine region_left [.is (.int .i64 8), .is (.slice (some ⟨b, off, none⟩) h.length cap), .is (.int .i64 (x : Int)), .is (.pointer (some ⟨b, off + x * 6, none⟩)), .is (.agg #[.int .i64 (cliO x0), .int .i64 (kindO x0), .int .i64 (begO x0), .int .i64 (endO x0), .slice a4 (addO x0).length c4, .slice a5 (seeO x0).length c5]), .is (.slice (some ⟨b, off, none⟩) h.length cap), .is (.int .i64 (z : Int)), .is (.pointer (some ⟨b, off + z * 6, none⟩)), .is (.agg #[.int .i64 (cliO y0), .int .i64 (kindO y0), .int .i64 (begO y0), .int .i64 (endO y0), .slice d4 (addO y0).length k4, .slice d5 (seeO y0).length k5]), .is (.slice (some ⟨b, off, none⟩) h.length cap), .is (.int .i64 (j : Int)), .is (.pointer (some ⟨b, off + j * 6, none⟩)), .is (.agg #[.int .i64 (cliO z0), .int .i64 (kindO z0), .int .i64 (begO z0), .int .i64 (endO z0), .slice f4 (addO z0).length m4, .slice f5 (seeO z0).length m5]), .is (.bool true)] (by kernel_rfl) rfl (by kernel_rfl) (by kernel_rfl) (.cons ?r3_0 (.cons ?r3_1 (.cons ?r3_2 (.cons ?r3_3 (.cons ?r3_4 (.cons ?r3_5 (.cons ?r3_6 (.cons ?r3_7 (.cons ?r3_8 (.cons ?r3_9 (.cons ?r3_10 (.cons ?r3_11 (.cons ?r3_12 (.cons ?r3_13 .nil)))))))))))))) ?r3_fin
                case r3_0 =>
                  intro wq hbw st  K hK
                  have KQ := KW.out.trans (hbw.mono KW.out.size)
                  simp only [Act.put, List.setIfInBounds_toArray, List.set_cons_zero, List.set_cons_succ] at hK ⊢
                  unfold opStep
                  rw [if_pos (by rfl)]
                  go_simp
                  exact hK.out _ _ (Below.refl _ _) rfl _ rfl
                case r3_1 =>
                  intro wq hbw st  K hK
                  have KQ := KW.out.trans (hbw.mono KW.out.size)
                  simp only [Act.put, List.setIfInBounds_toArray, List.set_cons_zero, List.set_cons_succ] at hK ⊢
                  unfold opStep
                  rw [if_pos (by rfl)]
                  go_simp
                  exact hK.out _ _ (Below.refl _ _) rfl _ rfl
                case r3_2 =>
                  intro wq hbw st  K hK
                  have KQ := KW.out.trans (hbw.mono KW.out.size)
                  simp only [Act.put, List.setIfInBounds_toArray, List.set_cons_zero, List.set_cons_succ] at hK ⊢
                  unfold opStep
                  rw [if_pos (by rfl)]
                  go_simp
                  exact hK.out _ _ (Below.refl _ _) rfl _ rfl
                case r3_3 =>
                  intro wq hbw st  K hK
                  have KQ := KW.out.trans (hbw.mono KW.out.size)
                  simp only [Act.put, List.setIfInBounds_toArray, List.set_cons_zero, List.set_cons_succ] at hK ⊢
                  unfold opStep
                  rw [if_pos (by rfl)]
                  go_simp
                  exact hK.out _ _ (Below.refl _ _) rfl _ rfl
                case r3_4 =>
                  intro wq hbw st  K hK
                  have KQ := KW.out.trans (hbw.mono KW.out.size)
                  simp only [Act.put, List.setIfInBounds_toArray, List.set_cons_zero, List.set_cons_succ] at hK ⊢
                  unfold opStep
                  rw [if_pos (by rfl)]
                  have dd := Lib.hid (HN.out.1 wq KQ)
                  have d0 := dd.out.1
                  have d1 := dd.out.2.1
                  have d2 := dd.out.2.2.1
                  have d3 := dd.out.2.2.2.1
                  have d4 := dd.out.2.2.2.2.1
                  have d5 := dd.out.2.2.2.2.2
                  go_simp
                  exact hK.out _ _ (Below.refl _ _) rfl _ rfl
                case r3_5 =>
                  intro wq hbw st  K hK
                  have KQ := KW.out.trans (hbw.mono KW.out.size)
                  simp only [Act.put, List.setIfInBounds_toArray, List.set_cons_zero, List.set_cons_succ] at hK ⊢
                  unfold opStep
                  rw [if_pos (by rfl)]
                  go_simp
                  exact hK.out _ _ (Below.refl _ _) rfl _ rfl
                case r3_6 =>
                  intro wq hbw st  K hK
                  have KQ := KW.out.trans (hbw.mono KW.out.size)
                  simp only [Act.put, List.setIfInBounds_toArray, List.set_cons_zero, List.set_cons_succ] at hK ⊢
                  unfold opStep
                  rw [if_pos (by rfl)]
                  go_simp
                  exact hK.out _ _ (Below.refl _ _) rfl _ rfl
                case r3_7 =>
                  intro wq hbw st  K hK
                  have KQ := KW.out.trans (hbw.mono KW.out.size)
                  simp only [Act.put, List.setIfInBounds_toArray, List.set_cons_zero, List.set_cons_succ] at hK ⊢
                  unfold opStep
                  rw [if_pos (by rfl)]
                  go_simp
                  exact hK.out _ _ (Below.refl _ _) rfl _ rfl
                case r3_8 =>
                  intro wq hbw st  K hK
                  have KQ := KW.out.trans (hbw.mono KW.out.size)
                  simp only [Act.put, List.setIfInBounds_toArray, List.set_cons_zero, List.set_cons_succ] at hK ⊢
                  unfold opStep
                  rw [if_pos (by rfl)]
                  have dd := Lib.hid (HN2.out.1 wq KQ)
                  have d0 := dd.out.1
                  have d1 := dd.out.2.1
                  have d2 := dd.out.2.2.1
                  have d3 := dd.out.2.2.2.1
                  have d4 := dd.out.2.2.2.2.1
                  have d5 := dd.out.2.2.2.2.2
                  go_simp
                  exact hK.out _ _ (Below.refl _ _) rfl _ rfl
                case r3_9 =>
                  intro wq hbw st  K hK
                  have KQ := KW.out.trans (hbw.mono KW.out.size)
                  simp only [Act.put, List.setIfInBounds_toArray, List.set_cons_zero, List.set_cons_succ] at hK ⊢
                  unfold opStep
                  rw [if_pos (by rfl)]
                  go_simp
                  exact hK.out _ _ (Below.refl _ _) rfl _ rfl
                case r3_10 =>
                  intro wq hbw st  K hK
                  have KQ := KW.out.trans (hbw.mono KW.out.size)
                  simp only [Act.put, List.setIfInBounds_toArray, List.set_cons_zero, List.set_cons_succ] at hK ⊢
                  unfold opStep
                  rw [if_pos (by rfl)]
                  go_simp
                  exact hK.out _ _ (Below.refl _ _) rfl _ rfl
                case r3_11 =>
                  intro wq hbw st  K hK
                  have KQ := KW.out.trans (hbw.mono KW.out.size)
                  simp only [Act.put, List.setIfInBounds_toArray, List.set_cons_zero, List.set_cons_succ] at hK ⊢
                  unfold opStep
                  rw [if_pos (by rfl)]
                  go_simp
                  exact hK.out _ _ (Below.refl _ _) rfl _ rfl
                case r3_12 =>
                  intro wq hbw st  K hK
                  have KQ := KW.out.trans (hbw.mono KW.out.size)
                  simp only [Act.put, List.setIfInBounds_toArray, List.set_cons_zero, List.set_cons_succ] at hK ⊢
                  unfold opStep
                  rw [if_pos (by rfl)]
                  have dd := Lib.hid (HN3.out.1 wq KQ)
                  have d0 := dd.out.1
                  have d1 := dd.out.2.1
                  have d2 := dd.out.2.2.1
                  have d3 := dd.out.2.2.2.1
                  have d4 := dd.out.2.2.2.2.1
                  have d5 := dd.out.2.2.2.2.2
                  go_simp
                  exact hK.out _ _ (Below.refl _ _) rfl _ rfl
                case r3_13 =>
                  intro wq hbw st  K hK
                  have KQ := KW.out.trans (hbw.mono KW.out.size)
                  simp only [Act.put, List.setIfInBounds_toArray, List.set_cons_zero, List.set_cons_succ] at hK ⊢
                  unfold opStep
                  rw [if_pos (by rfl)]
                  go_simp
                  have hpc := holds_any 8 (by omega) (by omega) _ _ _ x0 y0 z0 wq ⟨_, _, rfl, HN.out.2.1.keep KQ, HN.out.2.2.keep KQ⟩ ⟨_, _, rfl, HN2.out.2.1.keep KQ, HN2.out.2.2.keep KQ⟩ ⟨_, _, rfl, HN3.out.2.1.keep KQ, HN3.out.2.2.keep KQ⟩ FX.out FY.out FZ.out
                  rw [P1.out] at hpc
                  refine hpc.mono ?_
                  rintro e wz ⟨rfl, hbz⟩
                  go_simp
                  exact hK.out _ _ hbz rfl _ rfl
                case r3_fin =>
                  intro wq hbw
                  try simp only [FinAll]
                  simp only [Act.put, List.setIfInBounds_toArray, List.set_cons_zero, List.set_cons_succ]
                  replace KW := Lib.hid (KW.out.trans (hbw.mono KW.out.size))
                  clear hbw
                  go_wp2
                  go_ret
                  rw [HE.out]
                  exact made_lit (xs := [(x : Int), (z : Int), (j : Int)]) KW.out rfl (by simp)
              | false =>
                have P1 := Lib.hid hh
                have HG := Lib.hid (HGO.out hh)
                clear hh HYE HGO
                go_upto_region 15 with fail
                refine region_left [.is (.int .i64 8), .is (.slice (some ⟨b, off, none⟩) h.length cap), .is (.int .i64 (x : Int)), .is (.pointer (some ⟨b, off + x * 6, none⟩)), .is (.agg #[.int .i64 (cliO x0), .int .i64 (kindO x0), .int .i64 (begO x0), .int .i64 (endO x0), .slice a4 (addO x0).length c4, .slice a5 (seeO x0).length c5]), .is (.slice (some ⟨b, off, none⟩) h.length cap), .is (.int .i64 (z : Int)), .is (.pointer (some ⟨b, off + z * 6, none⟩)), .is (.agg #[.int .i64 (cliO y0), .int .i64 (kindO y0), .int .i64 (begO y0), .int .i64 (endO y0), .slice d4 (addO y0).length k4, .slice d5 (seeO y0).length k5]), .is (.slice (some ⟨b, off, none⟩) h.length cap), .is (.int .i64 (j : Int)), .is (.pointer (some ⟨b, off + j * 6, none⟩)), .is (.agg #[.int .i64 (cliO z0), .int .i64 (kindO z0), .int .i64 (begO z0), .int .i64 (endO z0), .slice f4 (addO z0).length m4, .slice f5 (seeO z0).length m5]), .is (.bool false)] (by kernel_rfl) rfl (by kernel_rfl) (by kernel_rfl) (.cons ?r4_0 (.cons ?r4_1 (.cons ?r4_2 (.cons ?r4_3 (.cons ?r4_4 (.cons ?r4_5 (.cons ?r4_6 (.cons ?r4_7 (.cons ?r4_8 (.cons ?r4_9 (.cons ?r4_10 (.cons ?r4_11 (.cons ?r4_12 (.cons ?r4_13 .nil)))))))))))))) ?r4_fin
                case r4_0 =>
                  intro wq hbw st  K hK
                  have KQ := KW.out.trans (hbw.mono KW.out.size)
                  simp only [Act.put, List.setIfInBounds_toArray, List.set_cons_zero, List.set_cons_succ] at hK ⊢
                  unfold opStep
                  rw [if_pos (by rfl)]
                  go_simp
                  exact hK.out _ _ (Below.refl _ _) rfl _ rfl
                case r4_1 =>
                  intro wq hbw st  K hK
                  have KQ := KW.out.trans (hbw.mono KW.out.size)
                  simp only [Act.put, List.setIfInBounds_toArray, List.set_cons_zero, List.set_cons_succ] at hK ⊢
                  unfold opStep
                  rw [if_pos (by rfl)]
                  go_simp
                  exact hK.out _ _ (Below.refl _ _) rfl _ rfl
                case r4_2 =>
                  intro wq hbw st  K hK
                  have KQ := KW.out.trans (hbw.mono KW.out.size)
                  simp only [Act.put, List.setIfInBounds_toArray, List.set_cons_zero, List.set_cons_succ] at hK ⊢
                  unfold opStep
                  rw [if_pos (by rfl)]
                  go_simp
                  exact hK.out _ _ (Below.refl _ _) rfl _ rfl
                case r4_3 =>
                  intro wq hbw st  K hK
                  have KQ := KW.out.trans (hbw.mono KW.out.size)
                  simp only [Act.put, List.setIfInBounds_toArray, List.set_cons_zero, List.set_cons_succ] at hK ⊢
                  unfold opStep
                  rw [if_pos (by rfl)]
                  go_simp
                  exact hK.out _ _ (Below.refl _ _) rfl _ rfl
                case r4_4 =>
                  intro wq hbw st  K hK
                  have KQ := KW.out.trans (hbw.mono KW.out.size)
                  simp only [Act.put, List.setIfInBounds_toArray, List.set_cons_zero, List.set_cons_succ] at hK ⊢
                  unfold opStep
                  rw [if_pos (by rfl)]
                  have dd := Lib.hid (HN.out.1 wq KQ)
                  have d0 := dd.out.1
                  have d1 := dd.out.2.1
                  have d2 := dd.out.2.2.1
                  have d3 := dd.out.2.2.2.1
                  have d4 := dd.out.2.2.2.2.1
                  have d5 := dd.out.2.2.2.2.2
                  go_simp
                  exact hK.out _ _ (Below.refl _ _) rfl _ rfl
                case r4_5 =>
                  intro wq hbw st  K hK
                  have KQ := KW.out.trans (hbw.mono KW.out.size)
                  simp only [Act.put, List.setIfInBounds_toArray, List.set_cons_zero, List.set_cons_succ] at hK ⊢
                  unfold opStep
                  rw [if_pos (by rfl)]
                  go_simp
                  exact hK.out _ _ (Below.refl _ _) rfl _ rfl
                case r4_6 =>
                  intro wq hbw st  K hK
                  have KQ := KW.out.trans (hbw.mono KW.out.size)
                  simp only [Act.put, List.setIfInBounds_toArray, List.set_cons_zero, List.set_cons_succ] at hK ⊢
                  unfold opStep
                  rw [if_pos (by rfl)]
                  go_simp
                  exact hK.out _ _ (Below.refl _ _) rfl _ rfl
                case r4_7 =>
                  intro wq hbw st  K hK
                  have KQ := KW.out.trans (hbw.mono KW.out.size)
                  simp only [Act.put, List.setIfInBounds_toArray, List.set_cons_zero, List.set_cons_succ] at hK ⊢
                  unfold opStep
                  rw [if_pos (by rfl)]
                  go_simp
                  exact hK.out _ _ (Below.refl _ _) rfl _ rfl
                case r4_8 =>
                  intro wq hbw st  K hK
                  have KQ := KW.out.trans (hbw.mono KW.out.size)
                  simp only [Act.put, List.setIfInBounds_toArray, List.set_cons_zero, List.set_cons_succ] at hK ⊢
                  unfold opStep
                  rw [if_pos (by rfl)]
                  have dd := Lib.hid (HN2.out.1 wq KQ)
                  have d0 := dd.out.1
                  have d1 := dd.out.2.1
                  have d2 := dd.out.2.2.1
                  have d3 := dd.out.2.2.2.1
                  have d4 := dd.out.2.2.2.2.1
                  have d5 := dd.out.2.2.2.2.2
                  go_simp
                  exact hK.out _ _ (Below.refl _ _) rfl _ rfl
                case r4_9 =>
                  intro wq hbw st  K hK
                  have KQ := KW.out.trans (hbw.mono KW.out.size)
                  simp only [Act.put, List.setIfInBounds_toArray, List.set_cons_zero, List.set_cons_succ] at hK ⊢
                  unfold opStep
                  rw [if_pos (by rfl)]
                  go_simp
                  exact hK.out _ _ (Below.refl _ _) rfl _ rfl
                case r4_10 =>
                  intro wq hbw st  K hK
                  have KQ := KW.out.trans (hbw.mono KW.out.size)
                  simp only [Act.put, List.setIfInBounds_toArray, List.set_cons_zero, List.set_cons_succ] at hK ⊢
                  unfold opStep
                  rw [if_pos (by rfl)]
                  go_simp
                  exact hK.out _ _ (Below.refl _ _) rfl _ rfl
                case r4_11 =>
                  intro wq hbw st  K hK
                  have KQ := KW.out.trans (hbw.mono KW.out.size)
                  simp only [Act.put, List.setIfInBounds_toArray, List.set_cons_zero, List.set_cons_succ] at hK ⊢
                  unfold opStep
                  rw [if_pos (by rfl)]
                  go_simp
                  exact hK.out _ _ (Below.refl _ _) rfl _ rfl
                case r4_12 =>
                  intro wq hbw st  K hK
                  have KQ := KW.out.trans (hbw.mono KW.out.size)
                  simp only [Act.put, List.setIfInBounds_toArray, List.set_cons_zero, List.set_cons_succ] at hK ⊢
                  unfold opStep
                  rw [if_pos (by rfl)]
                  have dd := Lib.hid (HN3.out.1 wq KQ)
                  have d0 := dd.out.1
                  have d1 := dd.out.2.1
                  have d2 := dd.out.2.2.1
                  have d3 := dd.out.2.2.2.1
                  have d4 := dd.out.2.2.2.2.1
                  have d5 := dd.out.2.2.2.2.2
                  go_simp
                  exact hK.out _ _ (Below.refl _ _) rfl _ rfl
                case r4_13 =>
                  intro wq hbw st  K hK
                  have KQ := KW.out.trans (hbw.mono KW.out.size)
                  simp only [Act.put, List.setIfInBounds_toArray, List.set_cons_zero, List.set_cons_succ] at hK ⊢
                  unfold opStep
                  rw [if_pos (by rfl)]
                  go_simp
                  have hpc := holds_any 8 (by omega) (by omega) _ _ _ x0 y0 z0 wq ⟨_, _, rfl, HN.out.2.1.keep KQ, HN.out.2.2.keep KQ⟩ ⟨_, _, rfl, HN2.out.2.1.keep KQ, HN2.out.2.2.keep KQ⟩ ⟨_, _, rfl, HN3.out.2.1.keep KQ, HN3.out.2.2.keep KQ⟩ FX.out FY.out FZ.out
                  rw [P1.out] at hpc
                  refine hpc.mono ?_
                  rintro e wz ⟨rfl, hbz⟩
                  go_simp
                  exact hK.out _ _ hbz rfl _ rfl
                case r4_fin =>
                  intro wq hbw
                  try simp only [FinAll]
                  simp only [Act.put, List.setIfInBounds_toArray, List.set_cons_zero, List.set_cons_succ]
                  have K3 := Lib.hid (KW.out.trans (hbw.mono KW.out.size))
                  clear hbw
                  go_wp2
                  go_roundg (h.length - (j + 1))
                  case measure => have := HM5.out; omega
                  case rel => exact ⟨j + 1, by omega, by go_num, K3.out, HG.out⟩
            · have HG : Hid (∀ w' r', w' < z + 1 → r' < h.length → holdB 8 (nth h x) (nth h w') (nth h r') = false) := Lib.hid fun w' r' hw' hr' => by
                by_cases e : w' = z
                · subst e; exact HLOW.out r' (by omega)
                · exact HROW.out w' r' (by omega) hr'
              clear HLOW HM5
              go_wp2
              go_roundg (h.length - (z + 1))
              case measure => have := HM4.out; omega
              case rel => exact ⟨z + 1, by omega, by go_num, KW.out, HG.out⟩
        · have HG : Hid (∀ u' w' r', u' < x + 1 → w' < h.length → r' < h.length → holdB 8 (nth h u') (nth h w') (nth h r') = false) := Lib.hid fun u' w' r' hu' hw' hr' => by
            by_cases e : u' = x
            · subst e; exact HROW.out w' r' (by omega) hr'
            · exact HALL.out u' w' r' (by omega) hw' hr'
          clear HROW HM4
          go_wp2
          go_roundg (h.length - (x + 1))
          case measure => have := HM.out; omega
          case rel => exact ⟨x + 1, by omega, by go_num, KW.out, HG.out⟩
    · have HE : Hid (refF h 8 = []) := Lib.hid (by rw [refF_8, refT_none fun u w r hu hw hr => HALL.out u w r (by omega) hw hr])
      go_wp2
      go_ret
      exact made_nil HE.out KW.out
theorem find_any (v : Value) (h : List Opn) (r : Nat) (h2 : 2 ≤ r) (h8 : r ≤ 8) (W : World) (hr : ReadsO W v h) (hs : SmallH h) : Calls Tryz.prog 32 #[v, .int .i64 (r : Int)] W (MadeI W (refF h r)) := by
  by_cases e2 : r = 2
  · subst e2; exact find2_any v h W hr hs
  · by_cases e8 : r = 8
    · subst e8; exact find8_any v h W hr hs
    · exact findP_any v h r (by omega) (by omega) W hr hs

set_option maxRecDepth 100000 in
set_option maxHeartbeats 8000000 in
theorem rck_any (v : Value) (h : List Opn) (W : World) (hr : ReadsO W v h) (hs : SmallH h) : Calls Tryz.prog 22 #[v] W (CkMade W (resR h)) := by
  have HR := Lib.hid hr
  have HS := Lib.hid hs
  have HCH := Lib.hid (rcheck_any v h W hr hs)
  obtain ⟨ao, cap, rfl, hl, hm, -, -⟩ := hr
  unfold maxLen at hm
  clear hs
  unfold ChkMade at HCH
  go_enter Tryz.func22, Tryz.ntmps22
  go_wp2_with fail
  refine HCH.out.mono ?_
  rintro e w1 ⟨rfl, hb1⟩
  have KW1 := Lib.hid hb1
  clear hb1 HCH
  by_cases h0 : (chkL h).2 = 0
  · have HW := Lib.hid (chk_well.1 h0)
    have HRS : Hid (resR h = res2 h) := Lib.hid (if_pos h0)
    have e0 := bne_f h0
    clear h0
    go_wp2
    go_loopg [6] 7 (fun m i wr => ∃ q : Nat, m + q = 9 ∧ 2 ≤ q ∧ i = .int .i64 ((q : Nat) : Int) ∧ Below W.heap.size W wr ∧ ∀ r, 2 ≤ r → r < q → refF h r = [])
    case atStart => exact ⟨2, by omega, by omega, rfl, KW1.out, fun r h1 h2 => by omega⟩
    case round =>
      clear KW1
      obtain ⟨q, hmq, hq2, rfl, hbel, hall⟩ := hrel
      have HM := Lib.hid hmq
      have KW := Lib.hid hbel
      have HALL := Lib.hid hall
      have hq9 : q ≤ 9 := by omega
      clear hmq hbel hall
      by_cases hq8 : q ≤ 8
      · have hqi : (q : Int) ≤ 8 := by omega
        go_wp2_with fail
        refine (find_any _ h q hq2 hq8 _ (HR.out.on KW.out) HS.out).mono ?_
        rintro e w2 ⟨v2, rfl, hr2, hb2⟩
        have K2 := Lib.hid (KW.out.trans (hb2.mono KW.out.size))
        have H2 := Lib.hid hr2
        obtain ⟨a2, k2, rfl, _, _⟩ := slcI hr2
        clear hb2 hr2
        by_cases hf : refF h q = []
        · have HG : Hid (∀ r, 2 ≤ r → r < q + 1 → refF h r = []) := Lib.hid fun r h1 h2 => by
            by_cases e : r = q
            · subst e; exact hf
            · exact HALL.out r h1 (by omega)
          rw [hf]
          clear hf H2
          go_wp2
          go_roundg (9 - (q + 1))
          case measure => have := HM.out; omega
          case rel => exact ⟨q + 1, by omega, by omega, by go_num, K2.out, HG.out⟩
        · have HE : Hid (resR h = ((q : Int), refF h q)) := Lib.hid (HRS.out.trans (res_at HW.out hq2 hq8 HALL.out hf))
          have hp : 0 < (refF h q).length := List.length_pos_iff.2 hf
          have hpi : (0 : Int) < ((refF h q).length : Int) := by omega
          clear hf hp
          generalize refF h q = xs at *
          go_wp2
          go_ret2
          rw [HE.out]
          exact ⟨_, rfl, H2.out, K2.out⟩
      · have hqi : ¬ (q : Int) ≤ 8 := by omega
        have HE : Hid (resR h = (0, [])) := Lib.hid (HRS.out.trans (res_non HW.out fun r h1 h2 => HALL.out r h1 (by omega)))
        clear hq8
        go_wp2
        go_ret2
        rw [HE.out]
        exact ⟨_, rfl, Reads.nil _, KW.out⟩
  · have HE : Hid (resR h = (1, [((chkL h).1 : Int)])) := Lib.hid (if_neg h0)
    have e0 := bne_t h0
    clear h0
    generalize (chkL h).1 = at1 at *
    go_wp2
    go_ret2
    rw [HE.out]
    exact ⟨_, rfl, blk_reads (xs := [(at1 : Int)]) (Blk.new _ _ _) rfl (by simp), KW1.out.alloc KW1.out.size _⟩
end Go.Proofs.YtjijlhjggpibjaaGreat
