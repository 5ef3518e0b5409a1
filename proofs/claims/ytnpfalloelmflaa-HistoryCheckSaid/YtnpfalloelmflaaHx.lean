/-
  Chapter 54: Respects.
-/
import Derived.Test.YtnpfalloelmflaaHw
import Derived.Test.YtnpfalloelmflaaHn
import Derived.Test.YtnpfalloelmflaaHo
namespace Go.Proofs.Ytnpfalloelmflaa
open Go.RowKit

def idL (n : Nat) : List Int := (List.range n).map fun (i : Nat) => (i : Int)
def permB (order : List Int) : Bool := decide (order.Perm (idL order.length))
theorem idL_sorted (n : Nat) : (idL n).Pairwise (· ≤ ·) := by
  unfold idL
  rw [List.pairwise_map]
  exact List.pairwise_lt_range.imp fun h => by omega
theorem idL_at {n i : Nat} (h : i < n) : (idL n)[i]? = some (i : Int) := by simp [idL, h]
theorem perm_sorted {zs ys : List Int} (hp : ys.Perm zs) (hs : ys.Pairwise (· ≤ ·)) (h : permB zs = true) : ys = idL zs.length :=
  List.Perm.eq_of_pairwise (fun a b _ _ h1 h2 => by omega) hs (idL_sorted _) (hp.trans (of_decide_eq_true h))
theorem perm_of {zs ys : List Int} (hp : ys.Perm zs) (h : ∀ i (hi : i < ys.length), ys[i] = (i : Int)) : permB zs = true := by
  have e : ys = idL zs.length := by
    apply List.ext_getElem
    · simp [idL, hp.length_eq]
    · intro i h1 h2
      rw [h i h1]; simp [idL]
  exact decide_eq_true (e ▸ hp.symm)
theorem perm_bd {zs : List Int} (h : permB zs = true) : ∀ i ∈ zs, 0 ≤ i ∧ i < zs.length := by
  intro i hi
  have := (of_decide_eq_true h : zs.Perm (idL zs.length)).mem_iff.1 hi
  simp [idL] at this
  omega
/-- No later one precedes an earlier one. -/
def respP (h : List Opn) (order : List Int) : Prop := ∀ a b (ha : a < order.length) (hb : b < order.length), a < b → precAt h order[b].toNat order[a].toNat = false
noncomputable def respB (h : List Opn) (order : List Int) : Bool := permB order && decide (order.length = h.length) && @decide (respP h order) (Classical.propDecidable _)
theorem resp_perm {h : List Opn} {order : List Int} (hp : permB order = false) : respB h order = false := by unfold respB; rw [hp]; rfl
theorem resp_len {h : List Opn} {order : List Int} (hl : ¬ order.length = h.length) : respB h order = false := by unfold respB; rw [decide_eq_false hl, Bool.and_false]; rfl
theorem resp_bad {h : List Opn} {order : List Int} (hn : ¬ respP h order) : respB h order = false := by unfold respB; rw [@decide_eq_false _ (Classical.propDecidable _) hn, Bool.and_false]
theorem resp_ok {h : List Opn} {order : List Int} (hp : permB order = true) (hl : order.length = h.length) (hr : respP h order) : respB h order = true := by unfold respB; rw [hp, decide_eq_true hl, @decide_eq_true _ (Classical.propDecidable _) hr]; rfl
theorem ints_of {w w' : World} {ao : Option Addr} {cap : Nat} {xs : List Int} (h : Reads vi w (.slice ao xs.length cap) xs) (hb : Below w.heap.size w w') : Ints w'.heap.size w' (.slice ao xs.length cap) xs := by
  by_cases he : xs = []
  · subst he; exact .inl ⟨ao, cap, rfl, rfl⟩
  · obtain ⟨ao', cap', e, _, _, _, hx⟩ := h
    injection e with e1 _ e3
    subst e1 e3
    obtain ⟨b, off, rfl, hlt, hc⟩ := hx he
    refine .inr ⟨b, off, cap, rfl, Nat.lt_of_lt_of_le hlt hb.size, fun j hj => ?_⟩
    rw [hb.cell (p := ⟨b, off + j, none⟩) hlt, hc j hj]
    simp [vi, hj]

set_option maxRecDepth 100000 in
set_option maxHeartbeats 8000000 in
theorem respects_any (v u : Value) (h : List Opn) (order : List Int) (W : World) (hr : ReadsO W v h) (ho : Reads vi W u order) (_ : h.length ≤ 1000) (hor : order.length ≤ 1000) : Calls Try.prog 28 #[v, u] W (BoolMade W (respB h order)) := by
  have HR := Lib.hid hr
  have HO := Lib.hid ho
  obtain ⟨ao, cap, rfl, hl, hm, -, -⟩ := hr
  obtain ⟨ao2, cap2, rfl, hl2, hm2, -, -⟩ := ho
  unfold maxLen at hm hm2
  have HPB := Lib.hid (@resp_perm h order)
  have HPL := Lib.hid (@resp_len h order)
  have HPX := Lib.hid (And.intro (@resp_bad h order) (@resp_ok h order))
  generalize respB h order = res at *
  go_enter Try.func28, Try.ntmps28
  go_wp2_with fail
  refine (values_any ao2 order.length cap2 _).mono ?_
  rintro e w1 ⟨rfl, rfl⟩
  have HSF := Lib.hid (sortedFunc_any (.slice ao2 order.length cap2) order W.heap.size (W.alloc (.cells #[.slice ao2 order.length cap2] 37)) (by omega) (by simp) ((Blk.new W _ _).cell 0) (ints_of HO.out ((Below.refl _ _).alloc (Nat.le_refl _) _)))
  go_wp2_with fail
  refine HSF.out.mono ?_
  rintro e w2 ⟨v2, ys, rfl, hry, hpy, hsy, hb2⟩
  have HY := Lib.hid (And.intro hry (And.intro hpy hsy))
  have KW := Lib.hid (((Below.refl W.heap.size W).alloc (Nat.le_refl _) (.cells #[.slice ao2 order.length cap2] 37)).trans (hb2.mono (by simp)))
  obtain ⟨ay, cy, rfl, hly, hmy, -, -⟩ := hry
  unfold maxLen at hmy
  have hyl := hpy.length_eq
  clear hpy hsy hb2 HSF
  have hyl2 : ys.length ≤ 1000 := by omega
  have HYL := Lib.hid hyl
  clear hyl
  go_wp2
  go_loop [17] (fun i => ∃ k : Nat, k ≤ ys.length ∧ i = .int .i64 k ∧ ∀ j (hj : j < ys.length), j < k → ys[j] = (j : Int)) (fun i => ys.length - (intOf i).toNat)
  case atStart => exact ⟨0, by omega, rfl, fun j _ h => by omega⟩
  case round =>
    obtain ⟨k, hk, rfl, hall⟩ := hrel
    have HALL := Lib.hid hall
    clear hall
    by_cases hlt : k < ys.length
    · obtain ⟨b, off, c0, hv, hb0, hc⟩ := int_at HY.out.1 hlt
      injection hv with e1 e2 e3
      subst e1
      have hki : (k : Int) < ys.length := by omega
      have hk0 : (0 : Int) ≤ (k : Int) := by omega
      have hsn : ys[k] = (k : Int) → ∀ j (hj : j < ys.length), j < k + 1 → ys[j] = (j : Int) := fun h1 j hj hjk => by
        rcases Nat.lt_or_ge j k with h2 | h2
        · exact HALL.out j hj h2
        · have : j = k := by omega
          subst this; exact h1
      have hbad : ¬ ys[k] = (k : Int) → permB order = false := fun h1 => Bool.eq_false_iff.2 fun hp => h1 (by
        have h2 := perm_sorted HY.out.2.1 HY.out.2.2 hp
        have h3 : ys[k]? = some (k : Int) := by rw [h2]; exact idL_at (by rw [← HYL.out]; exact hlt)
        rw [List.getElem?_eq_getElem hlt] at h3
        injection h3)
      have HSN := Lib.hid hsn
      have HBAD := Lib.hid hbad
      unfold vi at hc
      clear e2 e3 hsn hbad
      generalize ys[k] = y at *
      by_cases hy : y = (k : Int)
      · have ey := bne_f hy
        have HYK := Lib.hid hy
        clear hy
        go_wp2
        go_round
        case rel => exact ⟨k + 1, by omega, by go_num, HSN.out HYK.out⟩
        case measure => simp [intOf]; omega
      · have ey := bne_t hy
        have HE := Lib.hid (HPB.out (HBAD.out hy))
        clear hy
        go_wp2
        go_ret
        exact ⟨ret_bool HE.out.symm, KW.out⟩
    · have HP : Hid (permB order = true) := Lib.hid (perm_of HY.out.2.1 fun i hi => HALL.out i hi (by omega))
      clear HALL HPB
      by_cases hle : order.length = h.length
      · have e0 : ((order.length : Int) != (h.length : Int)) = false := bne_f (by omega)
        have e0n : (order.length != h.length) = false := by simp [hle]
        have HLE := Lib.hid hle
        have hlle : order.length ≤ h.length := by omega
        clear hle HPL
        go_wp2
        go_loopg [33] order.length (fun m i wr => ∃ k : Nat, m + k = order.length ∧ i = .int .i64 k ∧ (∀ a b (ha : a < order.length) (hb : b < order.length), a < k → a < b → precAt h order[b].toNat order[a].toNat = false) ∧ Below W.heap.size W wr)
        case atStart => exact ⟨0, by omega, rfl, fun a b _ _ h => by omega, KW.out⟩
        case round =>
          obtain ⟨k, hmk, rfl, hall, hbel⟩ := hrel
          have HM := Lib.hid hmk
          have HALL := Lib.hid hall
          replace KW := Lib.hid hbel
          have hk : k ≤ order.length := by omega
          clear hmk hall hbel
          by_cases hlt : k < order.length
          · obtain ⟨b, off, c0, hv, hb0, hc⟩ := int_at HO.out hlt
            injection hv with e1 e2 e3
            subst e1
            have hki : (k : Int) < order.length := by omega
            have hk0 : (0 : Int) ≤ (k : Int) := by omega
            have q0 := (KW.out.cell (p := ⟨b, off + k, none⟩) hb0).trans hc
            have hbd := perm_bd HP.out order[k] (List.getElem_mem hlt)
            have HALK : Hid (∀ i : Int, i = order[k] → (∀ b (hb : b < order.length), k < b → precAt h order[b].toNat i.toNat = false) → ∀ a b (ha : a < order.length) (hb : b < order.length), a < k + 1 → a < b → precAt h order[b].toNat order[a].toNat = false) := Lib.hid (fun i hi h1 a b ha hb hak hab => by
              rcases Nat.lt_or_ge a k with h2 | h2
              · exact HALL.out a b ha hb h2 hab
              · have : a = k := by omega
                subst this; subst hi; exact h1 b hb hab)
            obtain ⟨i, hi⟩ : ∃ i : Nat, order[k] = i := ⟨order[k].toNat, by omega⟩
            have HI := Lib.hid hi
            have hil : i < h.length := by omega
            unfold vi at q0
            rw [hi] at q0
            have hk1 : (0 : Int) ≤ (k : Int) + 1 := by omega
            have hk2 : (k : Int) + 1 ≤ order.length := by omega
            have hk3 : (k : Int) + 1 ≤ cap2 := by omega
            have hk4 : k + 1 ≤ cap2 := by omega
            have hk5 : k + 1 ≤ order.length := by omega
            have hto : ((k : Int) + 1).toNat = k + 1 := by omega
            clear e2 e3 hc hi hbd
            by_cases hcap : cap2 = k + 1
            · have hnk : order.length = k + 1 := by omega
              have HNK := Lib.hid hnk
              go_wp2
              obtain ⟨G1, hG1⟩ : ∃ G, G = gk := ⟨_, rfl⟩
              subst hG1
              go_loopg [43] 0 (fun m j wr => m = 0 ∧ j = .int .i64 0 ∧ Below W.heap.size W wr)
              case atStart => exact ⟨rfl, rfl, KW.out⟩
              case round =>
                obtain ⟨hmz, rfl, hbel⟩ := hrel
                replace KW := Lib.hid hbel
                have hz : order.length - (k + 1) = 0 := by omega
                have hz2 : (order.length : Int) - ((k : Int) + 1) = 0 := by omega
                have hz3 : ((order.length - (k + 1) : Nat) : Int) = 0 := by omega
                clear hmz hbel
                go_wp2
                go_roundg (order.length - (k + 1))
                case measure => have := HM.out; omega
                case rel => exact ⟨k + 1, by omega, by go_num, HALK.out i HI.out.symm (fun b hb hkb => by omega), KW.out⟩
            · have hk6 : k + 1 < cap2 := by omega
              have hk7 : (k : Int) + 1 < cap2 := by omega
              go_wp2
              obtain ⟨G1, hG1⟩ : ∃ G, G = gk := ⟨_, rfl⟩
              subst hG1
              go_loopg [43] (order.length - (k + 1)) (fun m j wr => ∃ q : Nat, m + q = order.length - (k + 1) ∧ j = .int .i64 q ∧ (∀ b (hb : b < order.length), k < b → b < k + 1 + q → precAt h order[b].toNat i = false) ∧ Below W.heap.size W wr)
              case atStart => exact ⟨0, by omega, rfl, fun b _ _ _ => by omega, KW.out⟩
              case round =>
                obtain ⟨q, hmq, rfl, hall, hbel⟩ := hrel
                have HM2 := Lib.hid hmq
                have HALL2 := Lib.hid hall
                replace KW := Lib.hid hbel
                have hq : q ≤ order.length - (k + 1) := by omega
                clear hmq hall hbel
                by_cases hqlt : q < order.length - (k + 1)
                · have hk1q : k + 1 + q < order.length := by omega
                  obtain ⟨b', off', c1, hv, hb1, hc1⟩ := int_at HO.out hk1q
                  injection hv with e1 e2 e3
                  injection e1 with e1
                  injection e1 with e1 e4
                  subst e1 e4
                  have q1 := (KW.out.cell (p := ⟨b, off + (k + 1 + q), none⟩) hb1).trans hc1
                  rw [← Nat.add_assoc off (k + 1) q] at q1
                  have hbd1 := perm_bd HP.out order[k + 1 + q] (List.getElem_mem hk1q)
                  have HALQ : Hid (∀ jj : Int, order[k + 1 + q] = jj → precAt h jj.toNat i = false → ∀ b (hb : b < order.length), k < b → b < k + 1 + (q + 1) → precAt h order[b].toNat i = false) := Lib.hid (fun jj hj h1 b hb hkb hbq => by
                    rcases Nat.lt_or_ge b (k + 1 + q) with h2 | h2
                    · exact HALL2.out b hb hkb h2
                    · have : b = k + 1 + q := by omega
                      subst this; subst hj; exact h1)
                  have HBQ : Hid (∀ jj : Int, order[k + 1 + q] = jj → precAt h jj.toNat i = true → res = false) := Lib.hid (fun jj hj h1 => HPX.out.1 (fun hrp => by
                    have h2 := hrp k (k + 1 + q) hlt hk1q (by omega)
                    rw [hj, HI.out, Int.toNat_natCast, h1] at h2
                    exact absurd h2 (by decide)))
                  obtain ⟨jj, hj⟩ : ∃ jj : Nat, order[k + 1 + q] = jj := ⟨order[k + 1 + q].toNat, by omega⟩
                  have HJ := Lib.hid (And.intro (HALQ.out jj hj) (HBQ.out jj hj))
                  have hjl : jj < h.length := by omega
                  unfold vi at q1
                  rw [hj] at q1
                  have hqi : (q : Int) < order.length - ((k : Int) + 1) := by omega
                  have hqi2 : (q : Int) < ((order.length - (k + 1) : Nat) : Int) := by omega
                  have hq0 : (0 : Int) ≤ q := by omega
                  clear hc1 hbd1 hj e2 e3 HALQ HBQ
                  obtain ⟨bh, offh, cap1, a4, c4, a5, c5, hv, _, _, hm4, hm5, hl4, hl5, hcell, r1, r2⟩ := HR.out.at2 hil
                  injection hv with e1 e2 e3
                  subst e1
                  obtain ⟨b', off', cap3, d4, k4, d5, k5, hv, _, _, n4, n5, l4, l5, hcell', s1, s2⟩ := HR.out.at2 hjl
                  injection hv with e1 e2' e3'
                  injection e1 with e1
                  injection e1 with e1 e4
                  subst e1 e4
                  have hii : (i : Int) < h.length := by omega
                  have hi0 : (0 : Int) ≤ (i : Int) := by omega
                  have hji : (jj : Int) < h.length := by omega
                  have hj0 : (0 : Int) ≤ (jj : Int) := by omega
                  have hpa : precAt h jj i = precB h[jj] h[i] := by unfold precAt; rw [List.getElem?_eq_getElem hil, List.getElem?_eq_getElem hjl]
                  have HN := Lib.hid (And.intro hcell (And.intro r1 r2))
                  have HN2 := Lib.hid (And.intro hcell' (And.intro s1 s2))
                  clear e2 e3 e2' e3' hcell hcell' r1 r2 s1 s2
                  generalize h[i] = x at *
                  generalize h[jj] = y at *
                  by_cases hp : precB y x = true
                  · have HP2 := Lib.hid hp
                    have HPA := Lib.hid (hpa.trans HP2.out)
                    clear hp hpa
                    go_wp2
                    refine region_left [.is (.slice (some ⟨bh, offh, none⟩) h.length cap), .is (.int .i64 jj), .is (.pointer (some ⟨bh, offh + jj * 6, none⟩)), .is (.agg #[.int .i64 (cliO y), .int .i64 (kindO y), .int .i64 (begO y), .int .i64 (endO y), .slice d4 (addO y).length k4, .slice d5 (seeO y).length k5]), .is (.slice (some ⟨bh, offh, none⟩) h.length cap), .is (.int .i64 i), .is (.pointer (some ⟨bh, offh + i * 6, none⟩)), .is (.agg #[.int .i64 (cliO x), .int .i64 (kindO x), .int .i64 (begO x), .int .i64 (endO x), .slice a4 (addO x).length c4, .slice a5 (seeO x).length c5]), .is (.bool true)] (by kernel_rfl) rfl (by kernel_rfl) (by kernel_rfl) (.cons ?q0 (.cons ?q1 (.cons ?q2 (.cons ?q3 (.cons ?q4 (.cons ?q5 (.cons ?q6 (.cons ?q7 (.cons ?q8 .nil))))))))) ?qfin
                    case q0 =>
                      intro wq hbw st  K hK
                      have KQ := KW.out.trans (hbw.mono KW.out.size)
                      simp only [Act.put, List.setIfInBounds_toArray, List.set_cons_zero, List.set_cons_succ] at hK ⊢
                      unfold opStep
                      rw [if_pos (by rfl)]
                      go_simp
                      exact hK.out _ _ (Below.refl _ _) rfl _ rfl
                    case q1 =>
                      intro wq hbw st  K hK
                      have KQ := KW.out.trans (hbw.mono KW.out.size)
                      simp only [Act.put, List.setIfInBounds_toArray, List.set_cons_zero, List.set_cons_succ] at hK ⊢
                      unfold opStep
                      rw [if_pos (by rfl)]
                      go_simp
                      exact hK.out _ _ (Below.refl _ _) rfl _ rfl
                    case q2 =>
                      intro wq hbw st  K hK
                      have KQ := KW.out.trans (hbw.mono KW.out.size)
                      simp only [Act.put, List.setIfInBounds_toArray, List.set_cons_zero, List.set_cons_succ] at hK ⊢
                      unfold opStep
                      rw [if_pos (by rfl)]
                      go_simp
                      exact hK.out _ _ (Below.refl _ _) rfl _ rfl
                    case q3 =>
                      intro wq hbw st  K hK
                      have KQ := KW.out.trans (hbw.mono KW.out.size)
                      simp only [Act.put, List.setIfInBounds_toArray, List.set_cons_zero, List.set_cons_succ] at hK ⊢
                      unfold opStep
                      rw [if_pos (by rfl)]
                      have dd := Lib.hid (HN2.out.1 wq KQ)
                      have d0 := dd.out.1
                      have d1 := dd.out.2.1
                      have d2 := dd.out.2.2.1
                      have d3 := dd.out.2.2.2.1
                      have d4 := dd.out.2.2.2.2.1
                      have d5 := dd.out.2.2.2.2.2
                      go_simp
                      exact hK.out _ _ (Below.refl _ _) rfl _ rfl
                    case q4 =>
                      intro wq hbw st  K hK
                      have KQ := KW.out.trans (hbw.mono KW.out.size)
                      simp only [Act.put, List.setIfInBounds_toArray, List.set_cons_zero, List.set_cons_succ] at hK ⊢
                      unfold opStep
                      rw [if_pos (by rfl)]
                      go_simp
                      exact hK.out _ _ (Below.refl _ _) rfl _ rfl
                    case q5 =>
                      intro wq hbw st  K hK
                      have KQ := KW.out.trans (hbw.mono KW.out.size)
                      simp only [Act.put, List.setIfInBounds_toArray, List.set_cons_zero, List.set_cons_succ] at hK ⊢
                      unfold opStep
                      rw [if_pos (by rfl)]
                      go_simp
                      exact hK.out _ _ (Below.refl _ _) rfl _ rfl
                    case q6 =>
                      intro wq hbw st  K hK
                      have KQ := KW.out.trans (hbw.mono KW.out.size)
                      simp only [Act.put, List.setIfInBounds_toArray, List.set_cons_zero, List.set_cons_succ] at hK ⊢
                      unfold opStep
                      rw [if_pos (by rfl)]
                      go_simp
                      exact hK.out _ _ (Below.refl _ _) rfl _ rfl
                    case q7 =>
                      intro wq hbw st  K hK
                      have KQ := KW.out.trans (hbw.mono KW.out.size)
                      simp only [Act.put, List.setIfInBounds_toArray, List.set_cons_zero, List.set_cons_succ] at hK ⊢
                      unfold opStep
                      rw [if_pos (by rfl)]
                      have dd := Lib.hid (HN.out.1 wq KQ)
                      have d0 := dd.out.1
                      have d1 := dd.out.2.1
                      have d2 := dd.out.2.2.1
                      have d3 := dd.out.2.2.2.1
                      have d4 := dd.out.2.2.2.2.1
                      have d5 := dd.out.2.2.2.2.2
                      go_simp
                      exact hK.out _ _ (Below.refl _ _) rfl _ rfl
                    case q8 =>
                      intro wq hbw st  K hK
                      have KQ := KW.out.trans (hbw.mono KW.out.size)
                      simp only [Act.put, List.setIfInBounds_toArray, List.set_cons_zero, List.set_cons_succ] at hK ⊢
                      unfold opStep
                      rw [if_pos (by rfl)]
                      go_simp
                      have hpc := prec_any _ _ y x wq ⟨_, _, rfl, HN2.out.2.1.keep KQ, HN2.out.2.2.keep KQ⟩ ⟨_, _, rfl, HN.out.2.1.keep KQ, HN.out.2.2.keep KQ⟩
                      rw [HP2.out] at hpc
                      refine hpc.mono ?_
                      rintro e wz ⟨rfl, hbz⟩
                      go_simp
                      exact hK.out _ _ hbz rfl _ rfl
                    case qfin =>
                      intro wq hbw
                      try simp only [FinAll]
                      simp only [Act.put, List.setIfInBounds_toArray, List.set_cons_zero, List.set_cons_succ]
                      have HE := Lib.hid (HJ.out.2 HPA.out)
                      replace KW := Lib.hid (KW.out.trans (hbw.mono KW.out.size))
                      clear hbw
                      go_wp2
                      go_ret
                      exact ⟨ret_bool HE.out.symm, KW.out⟩
                  · have HP2 := Lib.hid (Bool.eq_false_iff.2 hp)
                    have HPA := Lib.hid (hpa.trans HP2.out)
                    clear hp hpa
                    go_wp2
                    refine region_left [.is (.slice (some ⟨bh, offh, none⟩) h.length cap), .is (.int .i64 jj), .is (.pointer (some ⟨bh, offh + jj * 6, none⟩)), .is (.agg #[.int .i64 (cliO y), .int .i64 (kindO y), .int .i64 (begO y), .int .i64 (endO y), .slice d4 (addO y).length k4, .slice d5 (seeO y).length k5]), .is (.slice (some ⟨bh, offh, none⟩) h.length cap), .is (.int .i64 i), .is (.pointer (some ⟨bh, offh + i * 6, none⟩)), .is (.agg #[.int .i64 (cliO x), .int .i64 (kindO x), .int .i64 (begO x), .int .i64 (endO x), .slice a4 (addO x).length c4, .slice a5 (seeO x).length c5]), .is (.bool false)] (by kernel_rfl) rfl (by kernel_rfl) (by kernel_rfl) (.cons ?q0 (.cons ?q1 (.cons ?q2 (.cons ?q3 (.cons ?q4 (.cons ?q5 (.cons ?q6 (.cons ?q7 (.cons ?q8 .nil))))))))) ?qfin
                    case q0 =>
                      intro wq hbw st  K hK
                      have KQ := KW.out.trans (hbw.mono KW.out.size)
                      simp only [Act.put, List.setIfInBounds_toArray, List.set_cons_zero, List.set_cons_succ] at hK ⊢
                      unfold opStep
                      rw [if_pos (by rfl)]
                      go_simp
                      exact hK.out _ _ (Below.refl _ _) rfl _ rfl
                    case q1 =>
                      intro wq hbw st  K hK
                      have KQ := KW.out.trans (hbw.mono KW.out.size)
                      simp only [Act.put, List.setIfInBounds_toArray, List.set_cons_zero, List.set_cons_succ] at hK ⊢
                      unfold opStep
                      rw [if_pos (by rfl)]
                      go_simp
                      exact hK.out _ _ (Below.refl _ _) rfl _ rfl
                    case q2 =>
                      intro wq hbw st  K hK
                      have KQ := KW.out.trans (hbw.mono KW.out.size)
                      simp only [Act.put, List.setIfInBounds_toArray, List.set_cons_zero, List.set_cons_succ] at hK ⊢
                      unfold opStep
                      rw [if_pos (by rfl)]
                      go_simp
                      exact hK.out _ _ (Below.refl _ _) rfl _ rfl
                    case q3 =>
                      intro wq hbw st  K hK
                      have KQ := KW.out.trans (hbw.mono KW.out.size)
                      simp only [Act.put, List.setIfInBounds_toArray, List.set_cons_zero, List.set_cons_succ] at hK ⊢
                      unfold opStep
                      rw [if_pos (by rfl)]
                      have dd := Lib.hid (HN2.out.1 wq KQ)
                      have d0 := dd.out.1
                      have d1 := dd.out.2.1
                      have d2 := dd.out.2.2.1
                      have d3 := dd.out.2.2.2.1
                      have d4 := dd.out.2.2.2.2.1
                      have d5 := dd.out.2.2.2.2.2
                      go_simp
                      exact hK.out _ _ (Below.refl _ _) rfl _ rfl
                    case q4 =>
                      intro wq hbw st  K hK
                      have KQ := KW.out.trans (hbw.mono KW.out.size)
                      simp only [Act.put, List.setIfInBounds_toArray, List.set_cons_zero, List.set_cons_succ] at hK ⊢
                      unfold opStep
                      rw [if_pos (by rfl)]
                      go_simp
                      exact hK.out _ _ (Below.refl _ _) rfl _ rfl
                    case q5 =>
                      intro wq hbw st  K hK
                      have KQ := KW.out.trans (hbw.mono KW.out.size)
                      simp only [Act.put, List.setIfInBounds_toArray, List.set_cons_zero, List.set_cons_succ] at hK ⊢
                      unfold opStep
                      rw [if_pos (by rfl)]
                      go_simp
                      exact hK.out _ _ (Below.refl _ _) rfl _ rfl
                    case q6 =>
                      intro wq hbw st  K hK
                      have KQ := KW.out.trans (hbw.mono KW.out.size)
                      simp only [Act.put, List.setIfInBounds_toArray, List.set_cons_zero, List.set_cons_succ] at hK ⊢
                      unfold opStep
                      rw [if_pos (by rfl)]
                      go_simp
                      exact hK.out _ _ (Below.refl _ _) rfl _ rfl
                    case q7 =>
                      intro wq hbw st  K hK
                      have KQ := KW.out.trans (hbw.mono KW.out.size)
                      simp only [Act.put, List.setIfInBounds_toArray, List.set_cons_zero, List.set_cons_succ] at hK ⊢
                      unfold opStep
                      rw [if_pos (by rfl)]
                      have dd := Lib.hid (HN.out.1 wq KQ)
                      have d0 := dd.out.1
                      have d1 := dd.out.2.1
                      have d2 := dd.out.2.2.1
                      have d3 := dd.out.2.2.2.1
                      have d4 := dd.out.2.2.2.2.1
                      have d5 := dd.out.2.2.2.2.2
                      go_simp
                      exact hK.out _ _ (Below.refl _ _) rfl _ rfl
                    case q8 =>
                      intro wq hbw st  K hK
                      have KQ := KW.out.trans (hbw.mono KW.out.size)
                      simp only [Act.put, List.setIfInBounds_toArray, List.set_cons_zero, List.set_cons_succ] at hK ⊢
                      unfold opStep
                      rw [if_pos (by rfl)]
                      go_simp
                      have hpc := prec_any _ _ y x wq ⟨_, _, rfl, HN2.out.2.1.keep KQ, HN2.out.2.2.keep KQ⟩ ⟨_, _, rfl, HN.out.2.1.keep KQ, HN.out.2.2.keep KQ⟩
                      rw [HP2.out] at hpc
                      refine hpc.mono ?_
                      rintro e wz ⟨rfl, hbz⟩
                      go_simp
                      exact hK.out _ _ hbz rfl _ rfl
                    case qfin =>
                      intro wq hbw
                      try simp only [FinAll]
                      simp only [Act.put, List.setIfInBounds_toArray, List.set_cons_zero, List.set_cons_succ]
                      replace KW := Lib.hid (KW.out.trans (hbw.mono KW.out.size))
                      clear hbw
                      go_wp2
                      go_roundg (order.length - (k + 1) - (q + 1))
                      case measure => have := HM2.out; omega
                      case rel => exact ⟨q + 1, by omega, by go_num, HJ.out.1 HPA.out, KW.out⟩
                · have hqe : q = order.length - (k + 1) := by omega
                  subst hqe
                  have hqi : ((order.length - (k + 1) : Nat) : Int) = order.length - ((k : Int) + 1) := by omega
                  go_wp2
                  go_roundg (order.length - (k + 1))
                  case measure => have := HM.out; omega
                  case rel => exact ⟨k + 1, by omega, by go_num, HALK.out i HI.out.symm (fun b hb hkb => by rw [Int.toNat_natCast]; exact HALL2.out b hb hkb (by omega)), KW.out⟩
          · have hkk : k = order.length := by omega
            subst hkk
            have HE := Lib.hid (HPX.out.2 HP.out HLE.out (fun a b ha hb hab => HALL.out a b ha hb ha hab))
            go_wp2
            go_ret
            exact ⟨ret_bool HE.out.symm, KW.out⟩
      · have e0 : ((order.length : Int) != (h.length : Int)) = true := bne_t (by omega)
        have e0n : (order.length != h.length) = true := by simp [hle]
        have HE := Lib.hid (HPL.out hle)
        clear hle
        go_wp2
        go_ret
        exact ⟨ret_bool HE.out.symm, KW.out⟩
end Go.Proofs.Ytnpfalloelmflaa
