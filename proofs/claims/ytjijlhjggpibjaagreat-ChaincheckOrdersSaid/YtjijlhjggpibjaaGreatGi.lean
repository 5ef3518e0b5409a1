/-
  Chapter 55: large and example of the statements, the comparison of two lists, awake.
-/
import Derived.Test.YtjijlhjggpibjaaGreatGg
import Derived.Test.YtjijlhjggpibjaaGreatKd
namespace Go.Proofs.YtjijlhjggpibjaaGreat
open Go.RowKit

theorem slcI {w : World} {u : Value} {xs : List Int} (h : Reads vi w u xs) : ∃ a k, u = .slice a xs.length k ∧ k ≤ 9223372036854775807 ∧ xs.length ≤ k := by
  obtain ⟨ao, cap, rfl, hl, hm, -, -⟩ := h
  unfold maxLen at hm
  exact ⟨ao, cap, rfl, by omega, hl⟩
set_option maxRecDepth 100000 in
set_option maxHeartbeats 4000000 in
theorem same_any (u v : Value) (xs ys : List Int) (W : World) (hu : Reads vi W u xs) (hv : Reads vi W v ys) : Calls Tryz.prog 10 #[u, v] W (BoolMade W (decide (xs = ys))) := by
  have HU := Lib.hid hu
  have HV := Lib.hid hv
  have HNO : Hid (∀ j (h1 : j < xs.length) (h2 : j < ys.length), xs[j] ≠ ys[j] → decide (xs = ys) = false) := Lib.hid fun j h1 h2 hne => decide_eq_false fun e => hne (by subst e; rfl)
  obtain ⟨ua, uk, rfl, huk, hul⟩ := slcI hu
  obtain ⟨va, vk, rfl, hvk, hvl⟩ := slcI hv
  clear hu hv
  by_cases hlen : xs.length = ys.length
  · have HLEN := Lib.hid (And.intro hlen trivial)
    have hi : (xs.length : Int) = ys.length := by omega
    have HYES : Hid ((∀ j (h1 : j < xs.length) (h2 : j < ys.length), ys[j] = xs[j]) → decide (xs = ys) = true) := Lib.hid fun hh => decide_eq_true (List.ext_getElem hlen fun j h1 h2 => (hh j h1 h2).symm)
    go_enter Tryz.func10, Tryz.ntmps10
    have hib : ((xs.length : Int) != (ys.length : Int)) = false := by rw [hlen]; simp
    clear hi hlen
    generalize decide (xs = ys) = res at *
    go_wp2
    clear hib
    go_loopg [5] xs.length (fun m i wr => ∃ k : Nat, m + k = xs.length ∧ i = .int .i64 k ∧ (∀ j (h1 : j < xs.length) (h2 : j < ys.length), j < k → ys[j] = xs[j]) ∧ Below W.heap.size W wr)
    case atStart => exact ⟨0, by omega, rfl, fun j _ _ h => by omega, Below.refl _ _⟩
    case round =>
      obtain ⟨k, hmk, rfl, hall, hbel⟩ := hrel
      have HM := Lib.hid hmk
      have HALL := Lib.hid hall
      have KW := Lib.hid hbel
      have hk : k ≤ xs.length := by omega
      clear hmk hall hbel
      by_cases hlt : k < xs.length
      · have hlt2 : k < ys.length := by have := HLEN.out.1; omega
        obtain ⟨b, o1, k1, e1, g1, c1⟩ := int_at HU.out hlt
        obtain ⟨d, o2, k2, e2, g2, c2⟩ := int_at HV.out hlt2
        injection e1 with e1 e3 e4
        injection e2 with e2 e5 e6
        subst e1 e2
        clear e3 e4 e5 e6
        have hki : (k : Int) < xs.length := by omega
        have hkj : (k : Int) < ys.length := by omega
        have hk0 : (0 : Int) ≤ (k : Int) := by omega
        have HC1 := Lib.hid (And.intro g1 c1)
        have HC2 := Lib.hid (And.intro g2 c2)
        have HNK := Lib.hid (HNO.out k hlt hlt2)
        have HGK : Hid (ys[k] = xs[k] → ∀ j (h1 : j < xs.length) (h2 : j < ys.length), j < k + 1 → ys[j] = xs[j]) := Lib.hid fun h1 j hj hj2 hjk => by
          by_cases h2 : j = k
          · subst h2; exact h1
          · exact HALL.out j hj hj2 (by omega)
        clear g1 c1 g2 c2
        generalize xs[k] = x at *
        generalize ys[k] = y at *
        clear hlt hlt2
        by_cases hxy : y = x
        · have HXY := Lib.hid (HGK.out hxy)
          subst hxy
          go_wp2_with fail
          refine region_left [.is (.slice (some ⟨b, o1, none⟩) xs.length uk), .is (.int .i64 (k : Int)), .is (.pointer (some ⟨b, o1 + k, none⟩)), .is (.int .i64 y), .is (.slice (some ⟨d, o2, none⟩) ys.length vk), .is (.int .i64 (k : Int)), .is (.pointer (some ⟨d, o2 + k, none⟩)), .is (.int .i64 y), .is (.bool false)] (by kernel_rfl) rfl (by kernel_rfl) (by kernel_rfl) (.cons ?q1_0 (.cons ?q1_1 (.cons ?q1_2 (.cons ?q1_3 (.cons ?q1_4 (.cons ?q1_5 (.cons ?q1_6 (.cons ?q1_7 (.cons ?q1_8 .nil))))))))) ?q1_fin
          case q1_0 =>
            intro wq hbw st  K hK
            have KQ := KW.out.trans (hbw.mono KW.out.size)
            simp only [Act.put, List.setIfInBounds_toArray, List.set_cons_zero, List.set_cons_succ] at hK ⊢
            unfold opStep
            rw [if_pos (by rfl)]
            go_simp
            exact hK.out _ _ (Below.refl _ _) rfl _ rfl
          case q1_1 =>
            intro wq hbw st  K hK
            have KQ := KW.out.trans (hbw.mono KW.out.size)
            simp only [Act.put, List.setIfInBounds_toArray, List.set_cons_zero, List.set_cons_succ] at hK ⊢
            unfold opStep
            rw [if_pos (by rfl)]
            go_simp
            exact hK.out _ _ (Below.refl _ _) rfl _ rfl
          case q1_2 =>
            intro wq hbw st  K hK
            have KQ := KW.out.trans (hbw.mono KW.out.size)
            simp only [Act.put, List.setIfInBounds_toArray, List.set_cons_zero, List.set_cons_succ] at hK ⊢
            unfold opStep
            rw [if_pos (by rfl)]
            go_simp
            exact hK.out _ _ (Below.refl _ _) rfl _ rfl
          case q1_3 =>
            intro wq hbw st  K hK
            have KQ := KW.out.trans (hbw.mono KW.out.size)
            simp only [Act.put, List.setIfInBounds_toArray, List.set_cons_zero, List.set_cons_succ] at hK ⊢
            unfold opStep
            rw [if_pos (by rfl)]
            have q1 := (KQ.cell (p := ⟨b, o1 + k, none⟩) HC1.out.1).trans HC1.out.2
            unfold vi at q1
            go_simp
            exact hK.out _ _ (Below.refl _ _) rfl _ rfl
          case q1_4 =>
            intro wq hbw st  K hK
            have KQ := KW.out.trans (hbw.mono KW.out.size)
            simp only [Act.put, List.setIfInBounds_toArray, List.set_cons_zero, List.set_cons_succ] at hK ⊢
            unfold opStep
            rw [if_pos (by rfl)]
            go_simp
            exact hK.out _ _ (Below.refl _ _) rfl _ rfl
          case q1_5 =>
            intro wq hbw st  K hK
            have KQ := KW.out.trans (hbw.mono KW.out.size)
            simp only [Act.put, List.setIfInBounds_toArray, List.set_cons_zero, List.set_cons_succ] at hK ⊢
            unfold opStep
            rw [if_pos (by rfl)]
            go_simp
            exact hK.out _ _ (Below.refl _ _) rfl _ rfl
          case q1_6 =>
            intro wq hbw st  K hK
            have KQ := KW.out.trans (hbw.mono KW.out.size)
            simp only [Act.put, List.setIfInBounds_toArray, List.set_cons_zero, List.set_cons_succ] at hK ⊢
            unfold opStep
            rw [if_pos (by rfl)]
            go_simp
            exact hK.out _ _ (Below.refl _ _) rfl _ rfl
          case q1_7 =>
            intro wq hbw st  K hK
            have KQ := KW.out.trans (hbw.mono KW.out.size)
            simp only [Act.put, List.setIfInBounds_toArray, List.set_cons_zero, List.set_cons_succ] at hK ⊢
            unfold opStep
            rw [if_pos (by rfl)]
            have q2 := (KQ.cell (p := ⟨d, o2 + k, none⟩) HC2.out.1).trans HC2.out.2
            unfold vi at q2
            go_simp
            exact hK.out _ _ (Below.refl _ _) rfl _ rfl
          case q1_8 =>
            intro wq hbw st  K hK
            have KQ := KW.out.trans (hbw.mono KW.out.size)
            simp only [Act.put, List.setIfInBounds_toArray, List.set_cons_zero, List.set_cons_succ] at hK ⊢
            unfold opStep
            rw [if_pos (by rfl)]
            go_simp
            exact hK.out _ _ (Below.refl _ _) rfl _ rfl
          case q1_fin =>
            intro wq hbw
            try simp only [FinAll]
            simp only [Act.put, List.setIfInBounds_toArray, List.set_cons_zero, List.set_cons_succ]
            replace KW := Lib.hid (KW.out.trans (hbw.mono KW.out.size))
            clear hbw
            go_wp2
            go_roundg (xs.length - (k + 1))
            case measure => have := HM.out; omega
            case rel => exact ⟨k + 1, by omega, by go_num, HXY.out, KW.out⟩
        · have HF := Lib.hid (HNK.out fun e => hxy e.symm)
          have hne : (x != y) = true := by simp; exact fun e => hxy e.symm
          clear hxy
          go_wp2_with fail
          refine region_left [.is (.slice (some ⟨b, o1, none⟩) xs.length uk), .is (.int .i64 (k : Int)), .is (.pointer (some ⟨b, o1 + k, none⟩)), .is (.int .i64 x), .is (.slice (some ⟨d, o2, none⟩) ys.length vk), .is (.int .i64 (k : Int)), .is (.pointer (some ⟨d, o2 + k, none⟩)), .is (.int .i64 y), .is (.bool true)] (by kernel_rfl) rfl (by kernel_rfl) (by kernel_rfl) (.cons ?q2_0 (.cons ?q2_1 (.cons ?q2_2 (.cons ?q2_3 (.cons ?q2_4 (.cons ?q2_5 (.cons ?q2_6 (.cons ?q2_7 (.cons ?q2_8 .nil))))))))) ?q2_fin
          case q2_0 =>
            intro wq hbw st  K hK
            have KQ := KW.out.trans (hbw.mono KW.out.size)
            simp only [Act.put, List.setIfInBounds_toArray, List.set_cons_zero, List.set_cons_succ] at hK ⊢
            unfold opStep
            rw [if_pos (by rfl)]
            go_simp
            exact hK.out _ _ (Below.refl _ _) rfl _ rfl
          case q2_1 =>
            intro wq hbw st  K hK
            have KQ := KW.out.trans (hbw.mono KW.out.size)
            simp only [Act.put, List.setIfInBounds_toArray, List.set_cons_zero, List.set_cons_succ] at hK ⊢
            unfold opStep
            rw [if_pos (by rfl)]
            go_simp
            exact hK.out _ _ (Below.refl _ _) rfl _ rfl
          case q2_2 =>
            intro wq hbw st  K hK
            have KQ := KW.out.trans (hbw.mono KW.out.size)
            simp only [Act.put, List.setIfInBounds_toArray, List.set_cons_zero, List.set_cons_succ] at hK ⊢
            unfold opStep
            rw [if_pos (by rfl)]
            go_simp
            exact hK.out _ _ (Below.refl _ _) rfl _ rfl
          case q2_3 =>
            intro wq hbw st  K hK
            have KQ := KW.out.trans (hbw.mono KW.out.size)
            simp only [Act.put, List.setIfInBounds_toArray, List.set_cons_zero, List.set_cons_succ] at hK ⊢
            unfold opStep
            rw [if_pos (by rfl)]
            have q1 := (KQ.cell (p := ⟨b, o1 + k, none⟩) HC1.out.1).trans HC1.out.2
            unfold vi at q1
            go_simp
            exact hK.out _ _ (Below.refl _ _) rfl _ rfl
          case q2_4 =>
            intro wq hbw st  K hK
            have KQ := KW.out.trans (hbw.mono KW.out.size)
            simp only [Act.put, List.setIfInBounds_toArray, List.set_cons_zero, List.set_cons_succ] at hK ⊢
            unfold opStep
            rw [if_pos (by rfl)]
            go_simp
            exact hK.out _ _ (Below.refl _ _) rfl _ rfl
          case q2_5 =>
            intro wq hbw st  K hK
            have KQ := KW.out.trans (hbw.mono KW.out.size)
            simp only [Act.put, List.setIfInBounds_toArray, List.set_cons_zero, List.set_cons_succ] at hK ⊢
            unfold opStep
            rw [if_pos (by rfl)]
            go_simp
            exact hK.out _ _ (Below.refl _ _) rfl _ rfl
          case q2_6 =>
            intro wq hbw st  K hK
            have KQ := KW.out.trans (hbw.mono KW.out.size)
            simp only [Act.put, List.setIfInBounds_toArray, List.set_cons_zero, List.set_cons_succ] at hK ⊢
            unfold opStep
            rw [if_pos (by rfl)]
            go_simp
            exact hK.out _ _ (Below.refl _ _) rfl _ rfl
          case q2_7 =>
            intro wq hbw st  K hK
            have KQ := KW.out.trans (hbw.mono KW.out.size)
            simp only [Act.put, List.setIfInBounds_toArray, List.set_cons_zero, List.set_cons_succ] at hK ⊢
            unfold opStep
            rw [if_pos (by rfl)]
            have q2 := (KQ.cell (p := ⟨d, o2 + k, none⟩) HC2.out.1).trans HC2.out.2
            unfold vi at q2
            go_simp
            exact hK.out _ _ (Below.refl _ _) rfl _ rfl
          case q2_8 =>
            intro wq hbw st  K hK
            have KQ := KW.out.trans (hbw.mono KW.out.size)
            simp only [Act.put, List.setIfInBounds_toArray, List.set_cons_zero, List.set_cons_succ] at hK ⊢
            unfold opStep
            rw [if_pos (by rfl)]
            go_simp
            exact hK.out _ _ (Below.refl _ _) rfl _ rfl
          case q2_fin =>
            intro wq hbw
            try simp only [FinAll]
            simp only [Act.put, List.setIfInBounds_toArray, List.set_cons_zero, List.set_cons_succ]
            replace KW := Lib.hid (KW.out.trans (hbw.mono KW.out.size))
            clear hbw
            go_wp2
            go_ret
            exact ⟨ret_bool HF.out.symm, KW.out⟩
      · have hkk : k = xs.length := by omega
        subst hkk
        have HF := Lib.hid (HYES.out fun j hj hj2 => HALL.out j hj hj2 hj)
        go_wp2
        go_ret
        exact ⟨ret_bool HF.out.symm, KW.out⟩
  · have HF : Hid (decide (xs = ys) = false) := Lib.hid (decide_eq_false fun e => hlen (by rw [e]))
    have hib : ((xs.length : Int) != (ys.length : Int)) = true := by simp; omega
    go_enter Tryz.func10, Tryz.ntmps10
    go_wp2
    go_ret
    exact ⟨ret_bool HF.out.symm, Below.refl _ _⟩

theorem reads_litI {w : World} {g : Nat} {t : TypeId} {cs : Array Value} {xs : List Int} (h : Blk w g t cs) (hc : cs = (xs.map vi).toArray) (hm : xs.length ≤ 1000000) : Reads vi w (.slice (some ⟨g, 0, none⟩) xs.length xs.length) xs := by
  refine Reads.at (Nat.le_refl _) (by unfold maxLen; omega) h.lt fun j hj => ?_
  rw [h.cell, hc]
  simp [hj]
theorem reads_litS {w : World} {g : Nat} {t : TypeId} {cs : Array Value} {xs : List Str} (h : Blk w g t cs) (hc : cs = (xs.map vs).toArray) (hm : xs.length ≤ 1000000) : Reads vs w (.slice (some ⟨g, 0, none⟩) xs.length xs.length) xs := by
  refine Reads.at (Nat.le_refl _) (by unfold maxLen; omega) h.lt fun j hj => ?_
  rw [h.cell, hc]
  simp [hj]

def LargeMade (w : World) (h : List Opn) (e : Ending) (w' : World) : Prop := ∃ r, e = .returned (.bool r) ∧ w' = w ∧ (r = false → h.length ≤ 12 ∧ ((∀ o ∈ h, (∀ s ∈ addO o, s.length ≤ maxLen) ∧ ∀ s ∈ seeO o, s.length ≤ maxLen) → SmallH h) ∧ ∀ o ∈ h, (addO o).length ≤ 8 ∧ (seeO o).length ≤ 8)
theorem large_true {w : World} {h : List Opn} : LargeMade w h (.returned (.bool true)) w := ⟨_, rfl, rfl, fun h => by cases h⟩
theorem large_false {w : World} {h : List Opn} (hl : h.length ≤ 12) (ho : ∀ j (hj : j < h.length), j < h.length → (addO h[j]).length ≤ 8 ∧ (seeO h[j]).length ≤ 8) : LargeMade w h (.returned (.bool false)) w := by
  have h1 : ∀ o ∈ h, (addO o).length ≤ 8 ∧ (seeO o).length ≤ 8 := fun o hm => by
    obtain ⟨j, hj, rfl⟩ := List.getElem_of_mem hm
    exact ho j hj hj
  refine ⟨_, rfl, rfl, fun _ => ⟨hl, fun hs => ⟨by omega, fun o hm => ?_⟩, h1⟩⟩
  have := h1 o hm
  exact ⟨by omega, by omega, (hs o hm).1, (hs o hm).2⟩
set_option maxRecDepth 100000 in
set_option maxHeartbeats 4000000 in
theorem large_any (v : Value) (h : List Opn) (W : World) (hr : ReadsO W v h) : Calls Tryz.prog 5 #[v] W (LargeMade W h) := by
  have HR := Lib.hid hr
  obtain ⟨ao, cap, rfl, hl, hm, -, -⟩ := hr
  unfold maxLen at hm
  go_enter Tryz.func5, Tryz.ntmps5
  by_cases hlen : 12 < h.length
  · have hlen2 : (12 : Int) < (h.length : Int) := by omega
    go_wp2
    go_ret
    exact large_true
  · have hlen2 : ¬ (12 : Int) < (h.length : Int) := by omega
    have HLEN : Hid (h.length ≤ 12) := Lib.hid (by omega)
    clear hlen
    go_wp2
    go_loop [3] (fun i => ∃ k : Nat, k ≤ h.length ∧ i = .int .i64 k ∧ ∀ j (hj : j < h.length), j < k → (addO h[j]).length ≤ 8 ∧ (seeO h[j]).length ≤ 8) (fun i => h.length - (intOf i).toNat)
    case atStart => exact ⟨0, by omega, rfl, fun j _ h => by omega⟩
    case round =>
      obtain ⟨k, hk, rfl, hall⟩ := hrel
      have HALL := Lib.hid hall
      clear hall
      by_cases hlt : k < h.length
      · obtain ⟨b, off, cap1, a4, c4, a5, c5, hv, _, _, hm4, hm5, hl4, hl5, hcell, -, -⟩ := HR.out.at2 hlt
        injection hv with e1 e2 e3
        subst e1
        have hki : (k : Int) < h.length := by omega
        have hk0 : (0 : Int) ≤ (k : Int) := by omega
        have dd := Lib.hid (hcell W (Below.refl _ _))
        have d4 := dd.out.2.2.2.2.1
        have d5 := dd.out.2.2.2.2.2
        have HG : Hid ((addO h[k]).length ≤ 8 ∧ (seeO h[k]).length ≤ 8 → ∀ j (hj : j < h.length), j < k + 1 → (addO h[j]).length ≤ 8 ∧ (seeO h[j]).length ≤ 8) := Lib.hid fun h1 j hj hjk => by
          rcases Nat.lt_or_ge j k with h2 | h2
          · exact HALL.out j hj h2
          · have : j = k := by omega
            subst this; exact h1
        clear e2 e3 hcell dd
        generalize h[k] = x at *
        by_cases n4 : 8 < (addO x).length
        · have n4i : decide ((8 : Int) < ((addO x).length : Int)) = true := decide_eq_true (by omega)
          go_wp2
          go_ret
          exact large_true
        · have n4i : decide ((8 : Int) < ((addO x).length : Int)) = false := decide_eq_false (by omega)
          by_cases n5 : 8 < (seeO x).length
          · have n5i : decide ((8 : Int) < ((seeO x).length : Int)) = true := decide_eq_true (by omega)
            go_wp2
            go_ret
            exact large_true
          · have n5i : decide ((8 : Int) < ((seeO x).length : Int)) = false := decide_eq_false (by omega)
            go_wp2
            go_round
            case rel => exact ⟨k + 1, by omega, by go_num, HG.out ⟨by omega, by omega⟩⟩
            case measure => simp [intOf]; omega
      · have hkk : k = h.length := by omega
        subst hkk
        go_wp2
        go_ret
        exact large_false HLEN.out HALL.out

def exL (b e : Int) (xs : List Str) : List Opn := [(0, 1, 1, 4, [[120]], []), (1, 2, b, e, [], xs)]
def exBk (z1 : Nat) (b e : Int) (v : Value) : Array Value := #[.int .i64 0, .int .i64 1, .int .i64 1, .int .i64 4, .slice (some ⟨z1, 0, none⟩) 1 1, .slice none 0 0, .int .i64 1, .int .i64 2, .int .i64 b, .int .i64 e, .slice none 0 0, v]
theorem ex_reads {w : World} {g z1 : Nat} {b e : Int} {v : Value} {xs : List Str} (hB : Blk w g 39 (exBk z1 b e v)) (h1 : Blk w z1 9 #[vs [120]]) (hr : Reads vs w v xs) : ReadsO w (.slice (some ⟨g, 0, none⟩) 2 2) (exL b e xs) := by
  refine ⟨some ⟨g, 0, none⟩, 2, rfl, Nat.le_refl _, by unfold maxLen; omega, (fun h => by cases h), fun _ => ⟨g, 0, rfl, hB.lt, fun j hj => ?_⟩⟩
  have hj' : j < 2 := hj
  have r1 : Reads vs w (.slice (some ⟨z1, 0, none⟩) 1 1) [[120]] := reads_litS (xs := [[120]]) h1 rfl (by simp)
  have key : ∀ (o : Opn) (va vz : Value) (hx : (exL b e xs)[j] = o), Reads vs w va (addO o) → Reads vs w vz (seeO o) → (∀ i u, (opCs o va vz)[i]? = some u → w.cell? ⟨g, 0 + j * 6 + i, none⟩ = some u) →
      ∃ cs : List Value, cs.length = 6 ∧ (∀ i u, cs[i]? = some u → w.cell? ⟨g, 0 + j * 6 + i, none⟩ = some u) ∧ OpE w cs (exL b e xs)[j] := fun o va vz hx ha hz hc =>
    ⟨opCs o va vz, rfl, hc, va, vz, by rw [hx], by rw [hx]; exact ha, by rw [hx]; exact hz⟩
  have cell6 : ∀ (k : Nat) (cs : List Value), cs.length = 6 → (∀ i, i < 6 → (exBk z1 b e v)[k + i]? = cs[i]?) → ∀ i u, cs[i]? = some u → w.cell? ⟨g, k + i, none⟩ = some u := fun k cs hl hc i u hu => by
    have hi : i < 6 := by rw [← hl]; exact (List.getElem?_eq_some_iff.1 hu).1
    rw [hB.cell, hc i hi, hu]
  have h6 : ∀ i, i < 6 → i = 0 ∨ i = 1 ∨ i = 2 ∨ i = 3 ∨ i = 4 ∨ i = 5 := fun i h => by omega
  have h3 : j = 0 ∨ j = 1 := by omega
  rcases h3 with rfl | rfl
  · exact key _ (.slice (some ⟨z1, 0, none⟩) 1 1) (.slice none 0 0) rfl r1 (Reads.nil _) (cell6 0 _ rfl fun i hi => by rcases h6 i hi with rfl | rfl | rfl | rfl | rfl | rfl <;> rfl)
  · exact key _ (.slice none 0 0) v rfl (Reads.nil _) hr (cell6 6 _ rfl fun i hi => by rcases h6 i hi with rfl | rfl | rfl | rfl | rfl | rfl <;> rfl)
def ExMade (W : World) (b e : Int) (xs : List Str) (q : Ending) (w' : World) : Prop := ∃ g, q = .returned (.slice (some ⟨g, 0, none⟩) 2 2) ∧ ReadsO w' (.slice (some ⟨g, 0, none⟩) 2 2) (exL b e xs) ∧ Below W.heap.size W w'
set_option maxRecDepth 100000 in
set_option maxHeartbeats 4000000 in
theorem example_any (b e : Int) (v : Value) (xs : List Str) (W : World) (hr : Reads vs W v xs) : Calls Tryz.prog 12 #[.int .i64 b, .int .i64 e, v] W (ExMade W b e xs) := by
  have HR := Lib.hid hr
  obtain ⟨ao, cap, rfl, hl, hm, -, -⟩ := hr
  clear hl hm
  go_enter Tryz.func12, Tryz.ntmps12
  go_wp2
  go_ret
  have h1 := (Blk.new W 9 #[vs [120]]).alloc (.cells (exBk W.heap.size b e (.slice ao xs.length cap)) 39)
  have h2 := Blk.new (W.alloc (.cells #[vs [120]] 9)) 39 (exBk W.heap.size b e (.slice ao xs.length cap))
  have hb := below_two W (.cells #[vs [120]] 9) (.cells (exBk W.heap.size b e (.slice ao xs.length cap)) 39)
  rw [World.size_alloc] at h2
  exact ⟨W.heap.size + 1, rfl, ex_reads h2 h1 (HR.out.keep hb), hb⟩
theorem ex_small (b e : Int) {xs : List Str} (h1 : xs.length ≤ 1) (h2 : ∀ s ∈ xs, s.length ≤ 1) : SmallH (exL b e xs) := by
  unfold SmallH
  refine ⟨by simp [exL], fun o ho => ?_⟩
  simp [exL] at ho
  rcases ho with rfl | rfl
  · refine ⟨by simp [addO], by simp [seeO], ?_, ?_⟩
    · intro s hs
      simp [addO] at hs
      subst hs
      unfold maxLen; simp
    · intro s hs; simp [seeO] at hs
  · refine ⟨by simp [addO], by simp [seeO]; omega, ?_, ?_⟩
    · intro s hs; simp [addO] at hs
    · intro s hs
      have := h2 s hs
      unfold maxLen; omega
theorem ex1_res : resR (exL 2 3 [[120]]) = (0, []) := by decide +kernel
theorem ex2_res : resR (exL 5 6 []) = (6, [0, 1]) := by decide +kernel
theorem ex1_ok : Well (exL 2 3 [[120]]) ∧ NoReason (exL 2 3 [[120]]) := res_ok (by rw [ex1_res])
theorem ex1_ord : ordI (exL 2 3 [[120]]) = [0, 1] := by
  refine sorted_eq (R := keyLt (exL 2 3 [[120]])) (fun a b h1 => keyLt_asymm h1) (ordI_sorted _) (by decide) fun x => ?_
  rw [mem_ordI]
  constructor
  · rintro ⟨a, _⟩
    have a' : x < 2 := a
    have : x = 0 ∨ x = 1 := by omega
    rcases this with rfl | rfl <;> simp
  · intro hx
    have : x = 0 ∨ x = 1 := by simpa using hx
    rcases this with rfl | rfl
    · exact ⟨by decide, by decide +kernel⟩
    · exact ⟨by decide, by decide +kernel⟩
theorem ex1_chain : ∃ C, chainR (exL 2 3 [[120]]) = some C ∧ C.length = 1 := by
  have h1 := ex1_ok
  obtain ⟨C, h2, h3⟩ := chainR_is h1.1 h1.2
  refine ⟨C, h2, ?_⟩
  have h4 : RdI (exL 2 3 [[120]]) 1 := by decide
  have h5 : ¬ RdI (exL 2 3 [[120]]) 0 := by decide
  have h6 : ∀ X, X ∈ C ↔ X = setI (exL 2 3 [[120]]) 1 := fun X => by
    rw [h3.mem X]
    constructor
    · rintro ⟨r, a, b, c⟩
      have a' : r < 2 := a
      have : r = 0 ∨ r = 1 := by omega
      rcases this with rfl | rfl
      · exact absurd b h5
      · exact c
    · intro c
      exact ⟨1, by decide, h4, c⟩
  match C, h3.inc, h6 with
  | [], _, h6 => exact absurd ((h6 _).2 rfl) (by simp)
  | [_], _, _ => rfl
  | x :: y :: r, hi, h6 =>
    have e1 := (h6 x).1 (by simp)
    have e2 := (h6 y).1 (by simp)
    rw [List.pairwise_cons] at hi
    have := (hi.1 y (by simp)).2
    rw [e1, e2] at this
    omega
theorem ex1_ver1 : verB (exL 2 3 [[120]]) [0, 1] = true := by
  have h1 := (ordI_lin ex1_ok.1 ex1_ok.2).ver ex1_ok.1
  rw [ex1_ord] at h1
  exact h1
theorem ex1_ver2 : verB (exL 2 3 [[120]]) [1, 0] = false := Bool.eq_false_iff.2 fun q => by
  have h1 := (ver_iff.1 q).2.1
  rw [show legB (exL 2 3 [[120]]) [1, 0] = false by decide +kernel] at h1
  cases h1

set_option maxRecDepth 100000 in
set_option maxHeartbeats 8000000 in
theorem awake_any (W : World) : Calls Tryz.prog 4 #[] W (BoolMade W true) := by
  have HX1 : Hid (SmallH (exL 2 3 [[120]])) := Lib.hid (ex_small 2 3 (by simp) (by simp))
  have HX2 : Hid (SmallH (exL 5 6 [])) := Lib.hid (ex_small 5 6 (by simp) (by simp))
  have HB0 : Hid (Below W.heap.size W (W.alloc (.cells #[vs [120]] 9))) := Lib.hid ((Below.refl _ _).alloc (Nat.le_refl _) _)
  have HR0 : Hid (Reads vs (W.alloc (.cells #[vs [120]] 9)) (.slice (some ⟨W.heap.size, 0, none⟩) 1 1) [[120]]) := Lib.hid (reads_litS (xs := [[120]]) (Blk.new W _ _) rfl (by simp))
  go_enter Tryz.func4, Tryz.ntmps4
  go_wp2_with fail
  refine (example_any 2 3 _ [[120]] _ HR0.out).mono ?_
  rintro q w1 ⟨g, rfl, hr1, hb⟩
  have HR := Lib.hid hr1
  have KW := Lib.hid (HB0.out.trans (hb.mono HB0.out.size))
  clear hr1 hb HB0 HR0
  go_wp2_with fail
  refine (ck_any _ (exL 2 3 [[120]]) _ HR.out HX1.out).mono ?_
  rintro q w2 ⟨v2, rfl, hr2, hb⟩
  rw [ex1_res] at hr2 ⊢
  obtain ⟨a2, k2, rfl, _, _⟩ := slcI hr2
  replace HR := Lib.hid (HR.out.on hb)
  replace KW := Lib.hid (KW.out.trans (hb.mono KW.out.size))
  clear hr2 hb
  go_wp2_with fail
  refine (order_any _ (exL 2 3 [[120]]) _ HR.out HX1.out).mono ?_
  rintro q w3 ⟨v3, l3, rfl, hr3, hl3, hb⟩
  rw [ex1_res, if_pos rfl, ex1_ord] at hl3
  subst hl3
  rw [ex1_res, decide_eq_true rfl]
  have H3 := Lib.hid hr3
  obtain ⟨a3, k3, rfl, _, _⟩ := slcI hr3
  replace HR := Lib.hid (HR.out.on hb)
  replace KW := Lib.hid (KW.out.trans (hb.mono KW.out.size))
  clear hr3 hb
  go_wp2_with fail
  refine (example_any 5 6 _ [] _ (Reads.nil _)).mono ?_
  rintro q w4 ⟨g4, rfl, hr4, hb⟩
  have HR4 := Lib.hid hr4
  replace HR := Lib.hid (HR.out.on hb)
  replace H3 := Lib.hid (H3.out.keep hb)
  replace KW := Lib.hid (KW.out.trans (hb.mono KW.out.size))
  clear hr4 hb
  go_wp2_with fail
  refine (ck_any _ (exL 5 6 []) _ HR4.out HX2.out).mono ?_
  rintro q w5 ⟨v5, rfl, hr5, hb⟩
  rw [ex2_res] at hr5 ⊢
  have H5 := Lib.hid hr5
  obtain ⟨a5, k5, rfl, _, _⟩ := slcI hr5
  replace HR := Lib.hid (HR.out.on hb)
  replace H3 := Lib.hid (H3.out.keep hb)
  replace KW := Lib.hid (KW.out.trans (hb.mono KW.out.size))
  clear hr5 hb HR4
  go_wp2_with fail
  refine (chain_any _ (exL 2 3 [[120]]) _ HR.out HX1.out).mono ?_
  rintro q w6 hch
  obtain ⟨C, hC, hlC⟩ := ex1_chain
  rw [hC] at hch
  obtain ⟨v6, rfl, hown⟩ := hch
  obtain ⟨a6, k6, rfl⟩ : ∃ a c, v6 = .slice a C.length c := by obtain ⟨_, cells, h2, _⟩ := hown; exact row_slc h2
  rw [hlC]
  replace HR := Lib.hid (HR.out.on hown.1)
  replace H3 := Lib.hid (H3.out.keep hown.1)
  replace H5 := Lib.hid (H5.out.keep hown.1)
  replace KW := Lib.hid (KW.out.trans (hown.1.mono KW.out.size))
  clear hown hC hlC
  go_wp2_with fail
  have hB7 := (Below.refl w6.heap.size w6).alloc (Nat.le_refl _) (.cells #[.int .i64 0, .int .i64 1] 3)
  refine (same_any _ _ [0, 1] [0, 1] _ (H3.out.keep hB7) (reads_litI (xs := [0, 1]) (Blk.new w6 3 #[.int .i64 0, .int .i64 1]) rfl (by simp))).mono ?_
  rintro q w7 ⟨rfl, hb⟩
  rw [decide_eq_true rfl]
  replace HR := Lib.hid (HR.out.on (hB7.trans (hb.mono hB7.size)))
  replace H5 := Lib.hid (H5.out.keep (hB7.trans (hb.mono hB7.size)))
  replace KW := Lib.hid (KW.out.trans ((hB7.trans (hb.mono hB7.size)).mono KW.out.size))
  clear hb hB7 H3
  go_wp2_with fail
  have hB8 := (Below.refl w7.heap.size w7).alloc (Nat.le_refl _) (.cells #[.int .i64 0, .int .i64 1] 3)
  refine (same_any _ _ [0, 1] [0, 1] _ (H5.out.keep hB8) (reads_litI (xs := [0, 1]) (Blk.new w7 3 #[.int .i64 0, .int .i64 1]) rfl (by simp))).mono ?_
  rintro q w8 ⟨rfl, hb⟩
  rw [decide_eq_true rfl]
  replace HR := Lib.hid (HR.out.on (hB8.trans (hb.mono hB8.size)))
  replace KW := Lib.hid (KW.out.trans ((hB8.trans (hb.mono hB8.size)).mono KW.out.size))
  clear hb hB8 H5
  go_wp2_with fail
  have hB9 := (Below.refl w8.heap.size w8).alloc (Nat.le_refl _) (.cells #[.int .i64 0, .int .i64 1] 3)
  refine (ver_any _ _ (exL 2 3 [[120]]) [0, 1] _ (HR.out.on hB9) (reads_litI (xs := [0, 1]) (Blk.new w8 3 #[.int .i64 0, .int .i64 1]) rfl (by simp)) HX1.out (by simp)).mono ?_
  rintro q w9 ⟨rfl, hb⟩
  rw [ex1_ver1]
  replace HR := Lib.hid (HR.out.on (hB9.trans (hb.mono hB9.size)))
  replace KW := Lib.hid (KW.out.trans ((hB9.trans (hb.mono hB9.size)).mono KW.out.size))
  clear hb hB9
  go_wp2_with fail
  have hB0 := (Below.refl w9.heap.size w9).alloc (Nat.le_refl _) (.cells #[.int .i64 1, .int .i64 0] 3)
  refine (ver_any _ _ (exL 2 3 [[120]]) [1, 0] _ (HR.out.on hB0) (reads_litI (xs := [1, 0]) (Blk.new w9 3 #[.int .i64 1, .int .i64 0]) rfl (by simp)) HX1.out (by simp)).mono ?_
  rintro q w10 ⟨rfl, hb⟩
  rw [ex1_ver2]
  replace KW := Lib.hid (KW.out.trans ((hB0.trans (hb.mono hB0.size)).mono KW.out.size))
  clear hb hB0 HR
  go_wp2
  go_ret
  exact ⟨rfl, KW.out⟩
end Go.Proofs.YtjijlhjggpibjaaGreat
