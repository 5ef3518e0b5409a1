/-
  Chapter 56: small, same and example of the statements.
-/
import Derived.Test.YtgaolgfjbgflgaaLo
namespace Go.Proofs.Ytgaolgfjbgflgaa
open Go.RowKit

def okS (o : Opn) : Prop := (addO o).length ≤ 40 ∧ (seeO o).length ≤ 40 ∧ (∀ j (h : j < (addO o).length), (addO o)[j].length ≤ 400) ∧ ∀ j (h : j < (seeO o).length), (seeO o)[j].length ≤ 400
theorem slcI {w : World} {u : Value} {xs : List Int} (h : Reads vi w u xs) : ∃ a k, u = .slice a xs.length k ∧ k ≤ 9223372036854775807 ∧ xs.length ≤ k := by
  obtain ⟨ao, cap, rfl, hl, hm, -, -⟩ := h
  unfold maxLen at hm
  exact ⟨ao, cap, rfl, by omega, hl⟩
theorem small_of_ok {h : List Opn} (hl : h.length ≤ 1000) (ho : ∀ j (hj : j < h.length), okS h[j]) : SmallH h := by
  refine ⟨hl, fun o hm => ?_⟩
  obtain ⟨j, hj, rfl⟩ := List.getElem_of_mem hm
  obtain ⟨a, b, c, d⟩ := ho j hj
  refine ⟨by omega, by omega, fun s hs => ?_, fun s hs => ?_⟩
  · obtain ⟨i, hi, rfl⟩ := List.getElem_of_mem hs
    have := c i hi; omega
  · obtain ⟨i, hi, rfl⟩ := List.getElem_of_mem hs
    have := d i hi; omega
def SmallMade (w : World) (h : List Opn) (most : Int) (e : Ending) (w' : World) : Prop := ∃ r, e = .returned (.bool r) ∧ w' = w ∧ (r = true → (h.length : Int) ≤ most ∧ SmallH h)
theorem small_false {w : World} {h : List Opn} {most : Int} : SmallMade w h most (.returned (.bool false)) w := ⟨_, rfl, rfl, fun h => by cases h⟩

set_option maxRecDepth 100000 in
set_option maxHeartbeats 4000000 in
theorem small_any (v : Value) (h : List Opn) (most : Int) (W : World) (hr : ReadsO W v h) (hm0 : most ≤ 1000) : Calls Try.prog 13 #[v, .int .i64 most] W (SmallMade W h most) := by
  have HR := Lib.hid hr
  obtain ⟨ao, cap, rfl, hl, hm, -, -⟩ := hr
  unfold maxLen at hm
  go_enter Try.func13, Try.ntmps13
  by_cases hlen : (h.length : Int) ≤ most
  · have hlen2 : ¬ most < (h.length : Int) := by omega
    have HLEN := Lib.hid hlen
    clear hlen
    go_wp2
    go_loop [5, 6] (fun lf i => ∃ k c : Nat, k ≤ h.length ∧ c ≤ 400 ∧ lf = .int .i64 c ∧ i = .int .i64 k ∧ ∀ j (hj : j < h.length), j < k → okS h[j]) (fun _ i => h.length - (intOf i).toNat)
    case atStart => exact ⟨0, 400, by omega, by omega, rfl, rfl, fun j _ h => by omega⟩
    case round =>
      obtain ⟨k, c, hk, hc400, rfl, rfl, hall⟩ := hrel
      have HALL := Lib.hid hall
      clear hall
      by_cases hlt : k < h.length
      · obtain ⟨b, off, cap1, a4, c4, a5, c5, hv, _, _, hm4, hm5, hl4, hl5, hcell, r1, r2⟩ := HR.out.at2 hlt
        injection hv with e1 e2 e3
        subst e1
        have hki : (k : Int) < h.length := by omega
        have hk0 : (0 : Int) ≤ (k : Int) := by omega
        have HN := Lib.hid (And.intro r1 r2)
        have dd := Lib.hid (hcell W (Below.refl _ _))
        have d4 := dd.out.2.2.2.2.1
        have d5 := dd.out.2.2.2.2.2
        have HG : Hid (okS h[k] → ∀ j (hj : j < h.length), j < k + 1 → okS h[j]) := Lib.hid fun h1 j hj hjk => by
          rcases Nat.lt_or_ge j k with h2 | h2
          · exact HALL.out j hj h2
          · have : j = k := by omega
            subst this; exact h1
        clear e2 e3 hcell r1 r2 dd
        generalize h[k] = x at *
        by_cases n4 : 40 < (addO x).length
        · have n4i : (40 : Int) < (addO x).length := by omega
          go_wp2
          go_ret
          exact small_false
        · have n4i : ¬ (40 : Int) < (addO x).length := by omega
          by_cases n5 : 40 < (seeO x).length
          · have n5i : (40 : Int) < (seeO x).length := by omega
            go_wp2
            go_ret
            exact small_false
          · have n5i : ¬ (40 : Int) < (seeO x).length := by omega
            go_wp2
            go_loop [5, 7] (fun lf i => ∃ q c : Nat, q ≤ (addO x).length ∧ c ≤ 400 ∧ lf = .int .i64 c ∧ i = .int .i64 q ∧ ∀ j (hj : j < (addO x).length), j < q → (addO x)[j].length ≤ 400) (fun _ i => (addO x).length - (intOf i).toNat)
            case atStart => exact ⟨0, _, by omega, by omega, rfl, rfl, fun j _ h => by omega⟩
            case round =>
              clear hc400
              obtain ⟨q, c, hq, hc400, rfl, rfl, hall⟩ := hrel
              have HQ1 := Lib.hid hall
              clear hall
              by_cases hqlt : q < (addO x).length
              · obtain ⟨b2, off2, cap2, hv2, _, hc2⟩ := str_at HN.out.1 hqlt
                injection hv2 with e1 e2 e3
                subst e1
                have hqi : (q : Int) < (addO x).length := by omega
                have hq0 : (0 : Int) ≤ (q : Int) := by omega
                have HGQ : Hid ((addO x)[q].length ≤ 400 → ∀ j (hj : j < (addO x).length), j < q + 1 → (addO x)[j].length ≤ 400) := Lib.hid fun h1 j hj hjk => by
                  rcases Nat.lt_or_ge j q with h2 | h2
                  · exact HQ1.out j hj h2
                  · have : j = q := by omega
                    subst this; exact h1
                clear e2 e3
                generalize (addO x)[q] = s at *
                unfold vs at hc2
                have hsz := size_toB s
                by_cases hs : s.length ≤ c
                · have hs1 : ¬ (c : Int) < ((toB s).size : Int) := by rw [hsz]; omega
                  go_wp2
                  go_round
                  case rel => exact ⟨q + 1, c - s.length, by omega, by omega, by first | go_num | (congr 1; omega), by go_num, HGQ.out (by omega)⟩
                  case measure => simp [intOf]; omega
                · have hs1 : (c : Int) < ((toB s).size : Int) := by rw [hsz]; omega
                  go_wp2
                  go_ret
                  exact small_false
              · have hqe : q = (addO x).length := by omega
                subst hqe
                go_wp2
                go_loop [5, 8] (fun lf i => ∃ q c : Nat, q ≤ (seeO x).length ∧ c ≤ 400 ∧ lf = .int .i64 c ∧ i = .int .i64 q ∧ ∀ j (hj : j < (seeO x).length), j < q → (seeO x)[j].length ≤ 400) (fun _ i => (seeO x).length - (intOf i).toNat)
                case atStart => exact ⟨0, _, by omega, by omega, rfl, rfl, fun j _ h => by omega⟩
                case round =>
                  clear hc400
                  obtain ⟨q, c, hq, hc400, rfl, rfl, hall⟩ := hrel
                  have HQ2 := Lib.hid hall
                  clear hall
                  by_cases hqlt : q < (seeO x).length
                  · obtain ⟨b2, off2, cap2, hv2, _, hc2⟩ := str_at HN.out.2 hqlt
                    injection hv2 with e1 e2 e3
                    subst e1
                    have hqi : (q : Int) < (seeO x).length := by omega
                    have hq0 : (0 : Int) ≤ (q : Int) := by omega
                    have HGQ : Hid ((seeO x)[q].length ≤ 400 → ∀ j (hj : j < (seeO x).length), j < q + 1 → (seeO x)[j].length ≤ 400) := Lib.hid fun h1 j hj hjk => by
                      rcases Nat.lt_or_ge j q with h2 | h2
                      · exact HQ2.out j hj h2
                      · have : j = q := by omega
                        subst this; exact h1
                    clear e2 e3
                    generalize (seeO x)[q] = s at *
                    unfold vs at hc2
                    have hsz := size_toB s
                    by_cases hs : s.length ≤ c
                    · have hs1 : ¬ (c : Int) < ((toB s).size : Int) := by rw [hsz]; omega
                      go_wp2
                      go_round
                      case rel => exact ⟨q + 1, c - s.length, by omega, by omega, by first | go_num | (congr 1; omega), by go_num, HGQ.out (by omega)⟩
                      case measure => simp [intOf]; omega
                    · have hs1 : (c : Int) < ((toB s).size : Int) := by rw [hsz]; omega
                      go_wp2
                      go_ret
                      exact small_false
                  · have hqe : q = (seeO x).length := by omega
                    subst hqe
                    have HOK : Hid (okS x) := Lib.hid ⟨by omega, by omega, fun j hj => HQ1.out j hj hj, fun j hj => HQ2.out j hj hj⟩
                    go_wp2
                    go_round
                    case rel => exact ⟨k + 1, c, by omega, by omega, rfl, by go_num, HG.out HOK.out⟩
                    case measure => simp [intOf]; omega
      · have hkk : k = h.length := by omega
        subst hkk
        have HE : Hid ((h.length : Int) ≤ most ∧ SmallH h) := Lib.hid ⟨HLEN.out, small_of_ok (by have := HLEN.out; omega) fun j hj => HALL.out j hj hj⟩
        go_wp2
        go_ret
        exact ⟨_, rfl, rfl, fun _ => HE.out⟩
  · have hlen2 : most < (h.length : Int) := by omega
    clear hlen
    go_wp2
    go_ret
    exact small_false

set_option maxRecDepth 100000 in
set_option maxHeartbeats 4000000 in
theorem same_any (u v : Value) (xs ys : List Int) (W : World) (hu : Reads vi W u xs) (hv : Reads vi W v ys) : Calls Try.prog 17 #[u, v] W (BoolMade W (decide (xs = ys))) := by
  have HU := Lib.hid hu
  have HV := Lib.hid hv
  have HNO : Hid (∀ j (h1 : j < xs.length) (h2 : j < ys.length), xs[j] ≠ ys[j] → decide (xs = ys) = false) := Lib.hid fun j h1 h2 hne => decide_eq_false fun e => hne (by subst e; rfl)
  obtain ⟨ua, uk, rfl, huk, hul⟩ := slcI hu
  obtain ⟨va, vk, rfl, hvk, hvl⟩ := slcI hv
  clear hu hv
  by_cases hlen : xs.length = ys.length
  · have HLEN := Lib.hid (And.intro hlen trivial)
    have hi : (xs.length : Int) = ys.length := by omega
    have HYES : Hid ((∀ j (h1 : j < xs.length) (h2 : j < ys.length), ys[j] = xs[j]) → decide (xs = ys) = true) := Lib.hid fun hh => decide_eq_true (List.ext_getElem hlen fun j h1 h2 => (hh j h1 h2).symm)
    go_enter Try.func17, Try.ntmps17
    have hib : ((xs.length : Int) != (ys.length : Int)) = false := by rw [hlen]; simp
    clear hi hlen
    generalize decide (xs = ys) = res at *
    go_wp2
    clear hib
    go_loopg [5] xs.length (fun m i wr => ∃ k : Nat, m + k = xs.length ∧ i = .int .i64 k ∧ (∀ j (h1 : j < xs.length) (h2 : j < ys.length), j < k → ys[j] = xs[j]) ∧ Below W.heap.size W wr)
    case atStart => exact ⟨0, by omega, rfl, fun j _ _ h => by omega, Below.refl _ _⟩
    case round =>
      obtain ⟨k, hmk, rfl, hall, hbel⟩ := hrel
      have HM := Lib.hid hmk
      have HALL := Lib.hid hall
      have KW := Lib.hid hbel
      have hk : k ≤ xs.length := by omega
      clear hmk hall hbel
      by_cases hlt : k < xs.length
      · have hlt2 : k < ys.length := by have := HLEN.out.1; omega
        obtain ⟨b, o1, k1, e1, g1, c1⟩ := int_at HU.out hlt
        obtain ⟨d, o2, k2, e2, g2, c2⟩ := int_at HV.out hlt2
        injection e1 with e1 e3 e4
        injection e2 with e2 e5 e6
        subst e1 e2
        clear e3 e4 e5 e6
        have hki : (k : Int) < xs.length := by omega
        have hkj : (k : Int) < ys.length := by omega
        have hk0 : (0 : Int) ≤ (k : Int) := by omega
        have HC1 := Lib.hid (And.intro g1 c1)
        have HC2 := Lib.hid (And.intro g2 c2)
        have HNK := Lib.hid (HNO.out k hlt hlt2)
        have HGK : Hid (ys[k] = xs[k] → ∀ j (h1 : j < xs.length) (h2 : j < ys.length), j < k + 1 → ys[j] = xs[j]) := Lib.hid fun h1 j hj hj2 hjk => by
          by_cases h2 : j = k
          · subst h2; exact h1
          · exact HALL.out j hj hj2 (by omega)
        clear g1 c1 g2 c2
        generalize xs[k] = x at *
        generalize ys[k] = y at *
        clear hlt hlt2
        by_cases hxy : y = x
        · have HXY := Lib.hid (HGK.out hxy)
          subst hxy
          go_wp2_with fail
          refine region_left [.is (.slice (some ⟨b, o1, none⟩) xs.length uk), .is (.int .i64 (k : Int)), .is (.pointer (some ⟨b, o1 + k, none⟩)), .is (.int .i64 y), .is (.slice (some ⟨d, o2, none⟩) ys.length vk), .is (.int .i64 (k : Int)), .is (.pointer (some ⟨d, o2 + k, none⟩)), .is (.int .i64 y), .is (.bool false)] (by kernel_rfl) rfl (by kernel_rfl) (by kernel_rfl) (.cons ?q1_0 (.cons ?q1_1 (.cons ?q1_2 (.cons ?q1_3 (.cons ?q1_4 (.cons ?q1_5 (.cons ?q1_6 (.cons ?q1_7 (.cons ?q1_8 .nil))))))))) ?q1_fin
          case q1_0 =>
            intro wq hbw st  K hK
            have KQ := KW.out.trans (hbw.mono KW.out.size)
            simp only [Act.put, List.setIfInBounds_toArray, List.set_cons_zero, List.set_cons_succ] at hK ⊢
            unfold opStep
            rw [if_pos (by rfl)]
            go_simp
            exact hK.out _ _ (Below.refl _ _) rfl _ rfl
          case q1_1 =>
            intro wq hbw st  K hK
            have KQ := KW.out.trans (hbw.mono KW.out.size)
            simp only [Act.put, List.setIfInBounds_toArray, List.set_cons_zero, List.set_cons_succ] at hK ⊢
            unfold opStep
            rw [if_pos (by rfl)]
            go_simp
            exact hK.out _ _ (Below.refl _ _) rfl _ rfl
          case q1_2 =>
            intro wq hbw st  K hK
            have KQ := KW.out.trans (hbw.mono KW.out.size)
            simp only [Act.put, List.setIfInBounds_toArray, List.set_cons_zero, List.set_cons_succ] at hK ⊢
            unfold opStep
            rw [if_pos (by rfl)]
            go_simp
            exact hK.out _ _ (Below.refl _ _) rfl _ rfl
          case q1_3 =>
            intro wq hbw st  K hK
            have KQ := KW.out.trans (hbw.mono KW.out.size)
            simp only [Act.put, List.setIfInBounds_toArray, List.set_cons_zero, List.set_cons_succ] at hK ⊢
            unfold opStep
            rw [if_pos (by rfl)]
            have q1 := (KQ.cell (p := ⟨b, o1 + k, none⟩) HC1.out.1).trans HC1.out.2
            unfold vi at q1
            go_simp
            exact hK.out _ _ (Below.refl _ _) rfl _ rfl
          case q1_4 =>
            intro wq hbw st  K hK
            have KQ := KW.out.trans (hbw.mono KW.out.size)
            simp only [Act.put, List.setIfInBounds_toArray, List.set_cons_zero, List.set_cons_succ] at hK ⊢
            unfold opStep
            rw [if_pos (by rfl)]
            go_simp
            exact hK.out _ _ (Below.refl _ _) rfl _ rfl
          case q1_5 =>
            intro wq hbw st  K hK
            have KQ := KW.out.trans (hbw.mono KW.out.size)
            simp only [Act.put, List.setIfInBounds_toArray, List.set_cons_zero, List.set_cons_succ] at hK ⊢
            unfold opStep
            rw [if_pos (by rfl)]
            go_simp
            exact hK.out _ _ (Below.refl _ _) rfl _ rfl
          case q1_6 =>
            intro wq hbw st  K hK
            have KQ := KW.out.trans (hbw.mono KW.out.size)
            simp only [Act.put, List.setIfInBounds_toArray, List.set_cons_zero, List.set_cons_succ] at hK ⊢
            unfold opStep
            rw [if_pos (by rfl)]
            go_simp
            exact hK.out _ _ (Below.refl _ _) rfl _ rfl
          case q1_7 =>
            intro wq hbw st  K hK
            have KQ := KW.out.trans (hbw.mono KW.out.size)
            simp only [Act.put, List.setIfInBounds_toArray, List.set_cons_zero, List.set_cons_succ] at hK ⊢
            unfold opStep
            rw [if_pos (by rfl)]
            have q2 := (KQ.cell (p := ⟨d, o2 + k, none⟩) HC2.out.1).trans HC2.out.2
            unfold vi at q2
            go_simp
            exact hK.out _ _ (Below.refl _ _) rfl _ rfl
          case q1_8 =>
            intro wq hbw st  K hK
            have KQ := KW.out.trans (hbw.mono KW.out.size)
            simp only [Act.put, List.setIfInBounds_toArray, List.set_cons_zero, List.set_cons_succ] at hK ⊢
            unfold opStep
            rw [if_pos (by rfl)]
            go_simp
            exact hK.out _ _ (Below.refl _ _) rfl _ rfl
          case q1_fin =>
            intro wq hbw
            try simp only [FinAll]
            simp only [Act.put, List.setIfInBounds_toArray, List.set_cons_zero, List.set_cons_succ]
            replace KW := Lib.hid (KW.out.trans (hbw.mono KW.out.size))
            clear hbw
            go_wp2
            go_roundg (xs.length - (k + 1))
            case measure => have := HM.out; omega
            case rel => exact ⟨k + 1, by omega, by go_num, HXY.out, KW.out⟩
        · have HF := Lib.hid (HNK.out fun e => hxy e.symm)
          have hne : (x != y) = true := by simp; exact fun e => hxy e.symm
          clear hxy
          go_wp2_with fail
          refine region_left [.is (.slice (some ⟨b, o1, none⟩) xs.length uk), .is (.int .i64 (k : Int)), .is (.pointer (some ⟨b, o1 + k, none⟩)), .is (.int .i64 x), .is (.slice (some ⟨d, o2, none⟩) ys.length vk), .is (.int .i64 (k : Int)), .is (.pointer (some ⟨d, o2 + k, none⟩)), .is (.int .i64 y), .is (.bool true)] (by kernel_rfl) rfl (by kernel_rfl) (by kernel_rfl) (.cons ?q2_0 (.cons ?q2_1 (.cons ?q2_2 (.cons ?q2_3 (.cons ?q2_4 (.cons ?q2_5 (.cons ?q2_6 (.cons ?q2_7 (.cons ?q2_8 .nil))))))))) ?q2_fin
          case q2_0 =>
            intro wq hbw st  K hK
            have KQ := KW.out.trans (hbw.mono KW.out.size)
            simp only [Act.put, List.setIfInBounds_toArray, List.set_cons_zero, List.set_cons_succ] at hK ⊢
            unfold opStep
            rw [if_pos (by rfl)]
            go_simp
            exact hK.out _ _ (Below.refl _ _) rfl _ rfl
          case q2_1 =>
            intro wq hbw st  K hK
            have KQ := KW.out.trans (hbw.mono KW.out.size)
            simp only [Act.put, List.setIfInBounds_toArray, List.set_cons_zero, List.set_cons_succ] at hK ⊢
            unfold opStep
            rw [if_pos (by rfl)]
            go_simp
            exact hK.out _ _ (Below.refl _ _) rfl _ rfl
          case q2_2 =>
            intro wq hbw st  K hK
            have KQ := KW.out.trans (hbw.mono KW.out.size)
            simp only [Act.put, List.setIfInBounds_toArray, List.set_cons_zero, List.set_cons_succ] at hK ⊢
            unfold opStep
            rw [if_pos (by rfl)]
            go_simp
            exact hK.out _ _ (Below.refl _ _) rfl _ rfl
          case q2_3 =>
            intro wq hbw st  K hK
            have KQ := KW.out.trans (hbw.mono KW.out.size)
            simp only [Act.put, List.setIfInBounds_toArray, List.set_cons_zero, List.set_cons_succ] at hK ⊢
            unfold opStep
            rw [if_pos (by rfl)]
            have q1 := (KQ.cell (p := ⟨b, o1 + k, none⟩) HC1.out.1).trans HC1.out.2
            unfold vi at q1
            go_simp
            exact hK.out _ _ (Below.refl _ _) rfl _ rfl
          case q2_4 =>
            intro wq hbw st  K hK
            have KQ := KW.out.trans (hbw.mono KW.out.size)
            simp only [Act.put, List.setIfInBounds_toArray, List.set_cons_zero, List.set_cons_succ] at hK ⊢
            unfold opStep
            rw [if_pos (by rfl)]
            go_simp
            exact hK.out _ _ (Below.refl _ _) rfl _ rfl
          case q2_5 =>
            intro wq hbw st  K hK
            have KQ := KW.out.trans (hbw.mono KW.out.size)
            simp only [Act.put, List.setIfInBounds_toArray, List.set_cons_zero, List.set_cons_succ] at hK ⊢
            unfold opStep
            rw [if_pos (by rfl)]
            go_simp
            exact hK.out _ _ (Below.refl _ _) rfl _ rfl
          case q2_6 =>
            intro wq hbw st  K hK
            have KQ := KW.out.trans (hbw.mono KW.out.size)
            simp only [Act.put, List.setIfInBounds_toArray, List.set_cons_zero, List.set_cons_succ] at hK ⊢
            unfold opStep
            rw [if_pos (by rfl)]
            go_simp
            exact hK.out _ _ (Below.refl _ _) rfl _ rfl
          case q2_7 =>
            intro wq hbw st  K hK
            have KQ := KW.out.trans (hbw.mono KW.out.size)
            simp only [Act.put, List.setIfInBounds_toArray, List.set_cons_zero, List.set_cons_succ] at hK ⊢
            unfold opStep
            rw [if_pos (by rfl)]
            have q2 := (KQ.cell (p := ⟨d, o2 + k, none⟩) HC2.out.1).trans HC2.out.2
            unfold vi at q2
            go_simp
            exact hK.out _ _ (Below.refl _ _) rfl _ rfl
          case q2_8 =>
            intro wq hbw st  K hK
            have KQ := KW.out.trans (hbw.mono KW.out.size)
            simp only [Act.put, List.setIfInBounds_toArray, List.set_cons_zero, List.set_cons_succ] at hK ⊢
            unfold opStep
            rw [if_pos (by rfl)]
            go_simp
            exact hK.out _ _ (Below.refl _ _) rfl _ rfl
          case q2_fin =>
            intro wq hbw
            try simp only [FinAll]
            simp only [Act.put, List.setIfInBounds_toArray, List.set_cons_zero, List.set_cons_succ]
            replace KW := Lib.hid (KW.out.trans (hbw.mono KW.out.size))
            clear hbw
            go_wp2
            go_ret
            exact ⟨ret_bool HF.out.symm, KW.out⟩
      · have hkk : k = xs.length := by omega
        subst hkk
        have HF := Lib.hid (HYES.out fun j hj hj2 => HALL.out j hj hj2 hj)
        go_wp2
        go_ret
        exact ⟨ret_bool HF.out.symm, KW.out⟩
  · have HF : Hid (decide (xs = ys) = false) := Lib.hid (decide_eq_false fun e => hlen (by rw [e]))
    have hib : ((xs.length : Int) != (ys.length : Int)) = true := by simp; omega
    go_enter Try.func17, Try.ntmps17
    go_wp2
    go_ret
    exact ⟨ret_bool HF.out.symm, Below.refl _ _⟩

theorem reads_litI {w : World} {g : Nat} {t : TypeId} {cs : Array Value} {xs : List Int} (h : Blk w g t cs) (hc : cs = (xs.map vi).toArray) (hm : xs.length ≤ 1000000) : Reads vi w (.slice (some ⟨g, 0, none⟩) xs.length xs.length) xs := by
  refine Reads.at (Nat.le_refl _) (by unfold maxLen; omega) h.lt fun j hj => ?_
  rw [h.cell, hc]
  simp [hj]
theorem reads_litS {w : World} {g : Nat} {t : TypeId} {cs : Array Value} {xs : List Str} (h : Blk w g t cs) (hc : cs = (xs.map vs).toArray) (hm : xs.length ≤ 1000000) : Reads vs w (.slice (some ⟨g, 0, none⟩) xs.length xs.length) xs := by
  refine Reads.at (Nat.le_refl _) (by unfold maxLen; omega) h.lt fun j hj => ?_
  rw [h.cell, hc]
  simp [hj]
/-- The example, with the first two ends. -/
def exL (e0 e1 : Int) : List Opn := [(0, 1, 0, e0, [[120]], []), (1, 2, 1, e1, [], []), (1, 2, 3, 6, [], [[120]])]
def exBk (z1 z2 : Nat) (e0 e1 : Int) : Array Value := #[.int .i64 0, .int .i64 1, .int .i64 0, .int .i64 e0, .slice (some ⟨z1, 0, none⟩) 1 1, .slice none 0 0, .int .i64 1, .int .i64 2, .int .i64 1, .int .i64 e1, .slice none 0 0, .slice none 0 0, .int .i64 1, .int .i64 2, .int .i64 3, .int .i64 6, .slice none 0 0, .slice (some ⟨z2, 0, none⟩) 1 1]
def ExB (w : World) (g z1 z2 : Nat) (e0 e1 : Int) : Prop := Blk w g 37 (exBk z1 z2 e0 e1) ∧ Blk w z1 9 #[vs [120]] ∧ Blk w z2 9 #[vs [120]] ∧ g ≠ z1 ∧ g ≠ z2
theorem ExB.on {w w' : World} {g z1 z2 : Nat} {e0 e1 : Int} (h : ExB w g z1 z2 e0 e1) (hb : Below w.heap.size w w') : ExB w' g z1 z2 e0 e1 := ⟨h.1.on hb, h.2.1.on hb, h.2.2.1.on hb, h.2.2.2⟩
theorem ExB.reads {w : World} {g z1 z2 : Nat} {e0 e1 : Int} (h : ExB w g z1 z2 e0 e1) : ReadsO w (.slice (some ⟨g, 0, none⟩) 3 3) (exL e0 e1) := by
  obtain ⟨hB, h1, h2, -⟩ := h
  refine ⟨some ⟨g, 0, none⟩, 3, rfl, Nat.le_refl _, by unfold maxLen; omega, (fun h => by cases h), fun _ => ⟨g, 0, rfl, hB.lt, fun j hj => ?_⟩⟩
  have hj' : j < 3 := hj
  have r1 : Reads vs w (.slice (some ⟨z1, 0, none⟩) 1 1) [[120]] := reads_litS (xs := [[120]]) h1 rfl (by simp)
  have r2 : Reads vs w (.slice (some ⟨z2, 0, none⟩) 1 1) [[120]] := reads_litS (xs := [[120]]) h2 rfl (by simp)
  have key : ∀ (o : Opn) (va vz : Value) (hx : (exL e0 e1)[j] = o), Reads vs w va (addO o) → Reads vs w vz (seeO o) → (∀ i u, (opCs o va vz)[i]? = some u → w.cell? ⟨g, 0 + j * 6 + i, none⟩ = some u) →
      ∃ cs : List Value, cs.length = 6 ∧ (∀ i u, cs[i]? = some u → w.cell? ⟨g, 0 + j * 6 + i, none⟩ = some u) ∧ OpE w cs (exL e0 e1)[j] := fun o va vz hx ha hz hc =>
    ⟨opCs o va vz, rfl, hc, va, vz, by rw [hx], by rw [hx]; exact ha, by rw [hx]; exact hz⟩
  have cell6 : ∀ (k : Nat) (cs : List Value), cs.length = 6 → (∀ i, i < 6 → (exBk z1 z2 e0 e1)[k + i]? = cs[i]?) → ∀ i u, cs[i]? = some u → w.cell? ⟨g, k + i, none⟩ = some u := fun k cs hl hc i u hu => by
    have hi : i < 6 := by rw [← hl]; exact (List.getElem?_eq_some_iff.1 hu).1
    rw [hB.cell, hc i hi, hu]
  have h6 : ∀ i, i < 6 → i = 0 ∨ i = 1 ∨ i = 2 ∨ i = 3 ∨ i = 4 ∨ i = 5 := fun i h => by omega
  have h3 : j = 0 ∨ j = 1 ∨ j = 2 := by omega
  rcases h3 with rfl | rfl | rfl
  · exact key _ (.slice (some ⟨z1, 0, none⟩) 1 1) (.slice none 0 0) rfl r1 (Reads.nil _) (cell6 0 _ rfl fun i hi => by rcases h6 i hi with rfl | rfl | rfl | rfl | rfl | rfl <;> rfl)
  · exact key _ (.slice none 0 0) (.slice none 0 0) rfl (Reads.nil _) (Reads.nil _) (cell6 6 _ rfl fun i hi => by rcases h6 i hi with rfl | rfl | rfl | rfl | rfl | rfl <;> rfl)
  · exact key _ (.slice none 0 0) (.slice (some ⟨z2, 0, none⟩) 1 1) rfl (Reads.nil _) r2 (cell6 12 _ rfl fun i hi => by rcases h6 i hi with rfl | rfl | rfl | rfl | rfl | rfl <;> rfl)
theorem ex_small (e0 e1 : Int) : SmallH (exL e0 e1) := by
  unfold SmallH
  refine ⟨by simp [exL], fun o ho => ?_⟩
  simp [exL] at ho
  rcases ho with rfl | rfl | rfl <;> simp [addO, seeO]

theorem three_blk (W : World) (t1 t2 t3 : TypeId) (c1 c2 c3 : Array Value) : Blk (((W.alloc (.cells c1 t1)).alloc (.cells c2 t2)).alloc (.cells c3 t3)) (W.heap.size + 1 + 1) t3 c3 ∧
    Blk (((W.alloc (.cells c1 t1)).alloc (.cells c2 t2)).alloc (.cells c3 t3)) W.heap.size t1 c1 ∧ Blk (((W.alloc (.cells c1 t1)).alloc (.cells c2 t2)).alloc (.cells c3 t3)) (W.heap.size + 1) t2 c2 ∧
    Below W.heap.size W (((W.alloc (.cells c1 t1)).alloc (.cells c2 t2)).alloc (.cells c3 t3)) := by
  have h1 := Blk.new W t1 c1
  have h2 := Blk.new (W.alloc (.cells c1 t1)) t2 c2
  have h3 := Blk.new ((W.alloc (.cells c1 t1)).alloc (.cells c2 t2)) t3 c3
  simp only [World.size_alloc] at h2 h3
  exact ⟨h3, (h1.alloc _).alloc _, h2.alloc _, (((Below.refl _ _).alloc (Nat.le_refl _) _).alloc (by simp) _).alloc (by simp; omega) _⟩
def ExMade (W : World) (e : Ending) (w' : World) : Prop := ∃ g z1 z2, e = .returned (.slice (some ⟨g, 0, none⟩) 3 3) ∧ W.heap.size ≤ g ∧ ExB w' g z1 z2 4 2 ∧ Below W.heap.size W w'
set_option maxRecDepth 100000 in
set_option maxHeartbeats 4000000 in
theorem example_any (W : World) : Calls Try.prog 27 #[] W (ExMade W) := by
  go_enter Try.func27, Try.ntmps27
  go_wp2
  go_ret
  have h3 := three_blk W 9 9 37 #[vs [120]] #[vs [120]] (exBk W.heap.size (W.heap.size + 1) 4 2)
  exact ⟨W.heap.size + 1 + 1, W.heap.size, W.heap.size + 1, rfl, by omega, ⟨h3.1, h3.2.1, h3.2.2.1, by omega, by omega⟩, h3.2.2.2⟩
end Go.Proofs.Ytgaolgfjbgflgaa
