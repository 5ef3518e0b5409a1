/-
  Chapter 55: sets of the reference.
  Chapter 55: Chain of the reference.
  Chapter 55: Same of the reference of chapter 02.
-/
import Derived.Test.YtjijlhjggpibjaaGreatUa
import Derived.Test.YtjijlhjggpibjaaGreatGu
import Derived.Test.YtjijlhjggpibjaaGreatGd
import Derived.Test.YtjijlhjggpibjaaGreatH3
namespace Go.Proofs.YtjijlhjggpibjaaGreat
open Go.RowKit

def ltS (a b : List Str) : Prop := a.length < b.length
theorem ltS_asymm (x y : List Str) (h : ltS x y) : ¬ ltS y x := by unfold ltS at *; omega
theorem ltS_trans (x y z : List Str) (h : ¬ ltS y x) (k : ¬ ltS z y) : ¬ ltS z x := by unfold ltS at *; omega
theorem setsK_set {h : List Opn} {k : Nat} {S : List Str} (hm : S ∈ setsK h k) (hs : SmallH h) (hk : k ≤ h.length) : S.length ≤ 1000 := by
  obtain ⟨r, h1, _, rfl⟩ := (setsK_mem k S).1 hm
  have hr : r < h.length := by omega
  unfold setI
  rw [nth_eq hr]
  exact Nat.le_trans (ofL_length _) (hs.2 _ (List.getElem_mem hr)).2.1
set_option maxRecDepth 100000 in
set_option maxHeartbeats 16000000 in
theorem sets_any (v : Value) (h : List Opn) (W : World) (hr : ReadsO W v h) (hs : SmallH h) (C : List (List Str)) (hw : Well h) (hch : ChainD h h.length C) : Calls Tryz.prog 23 #[v] W (fun e w' => ∃ v', e = .returned v' ∧ OwnC W w' v' C) := by
  have HR := Lib.hid hr
  have HS := Lib.hid hs
  have HFIN : Hid (∀ L, L.Perm (setsK h h.length) → (L.Pairwise fun a b => ¬ ltS b a) → L = C) := Lib.hid fun L a b => sets_chain hw hch a b
  have hn := hs.1
  obtain ⟨ao, cap, rfl, hl, hm, -, -⟩ := hr
  unfold maxLen at hm
  clear hs hw hch
  go_enter Tryz.func23, Tryz.ntmps23
  go_wp2
  go_loopg [3, 4] h.length (fun m o i wr => ∃ k : Nat, m + k = h.length ∧ i = .int .i64 ((k : Nat) : Int) ∧ OwnC W wr o (setsK h k))
  case atStart => exact ⟨0, by omega, rfl, OwnC.nil W⟩
  case round =>
    obtain ⟨k, hmk, rfl, hown⟩ := hrel
    have HM := Lib.hid hmk
    have HO := Lib.hid hown
    have KW := Lib.hid hown.1
    have hk : k ≤ h.length := by omega
    have hsk := setsK_len (h := h) k
    obtain ⟨oa, oc, rfl⟩ := hown.slc
    clear hmk hown
    by_cases hlt : k < h.length
    · obtain ⟨b, off, cap1, a4, c4, a5, c5, hv, _, _, hm4, hm5, hl4, hl5, hcell, r1, r2⟩ := HR.out.at2 hlt
      injection hv with e1 e2 e3
      subst e1
      have hki : (k : Int) < h.length := by omega
      have hk0 : (0 : Int) ≤ (k : Int) := by omega
      obtain ⟨d0, d1, d2, d3, d4, d5⟩ := hcell wr KW.out
      have HN := Lib.hid (And.intro hcell (And.intro r1 r2))
      have HFIT := Lib.hid (fit_of HS.out hlt)
      have HNO := Lib.hid (fun q => setsK_no (h := h) (k := k) q)
      have HOLD := Lib.hid (fun q => setsK_old (h := h) (k := k) q)
      have HNEW := Lib.hid (fun q r => setsK_new (h := h) (k := k) q r)
      rw [nth_eq hlt] at HNO HOLD HNEW
      clear e2 e3 hcell r1 r2 hm4 hm5 hl4 hl5
      generalize h[k] = x0 at *
      generalize hSk : setsK h k = L at *
      clear hlt
      have hfx := HFIT.out.2
      go_wp2_with fail
      refine (rread_any _ x0 _ ⟨_, _, rfl, HN.out.2.1.keep KW.out, HN.out.2.2.keep KW.out⟩).mono ?_
      rintro e w1 ⟨rfl, hb⟩
      have HO1 := Lib.hid (HO.out.later hb)
      have KW1 := Lib.hid HO1.out.1
      clear hb d0 d1 d2 d3 d4 d5 HO KW
      cases h1 : rdO x0 with
      | false =>
        have HG := Lib.hid (HNO.out h1)
        clear h1
        go_wp2
        go_roundg (h.length - (k + 1))
        case measure => have := HM.out; omega
        case rel => exact ⟨k + 1, by omega, by go_num, by rw [HG.out]; exact HO1.out⟩
      | true =>
        have HR1 := Lib.hid h1
        clear h1
        have mixed : Tryz.prog.follows .mixedOrders = true := by kernel_rfl
        go_wp2
        obtain ⟨G2, hG2⟩ : ∃ G, G = gk := ⟨_, rfl⟩
        subst hG2
        go_loopg [5, 6] L.length (fun m f i wz => ∃ j : Nat, m + j = L.length ∧ i = .int .i64 ((j : Nat) : Int) ∧ f = .bool (anyS (seeO x0) L j) ∧ Below w1.heap.size w1 wz)
        case atStart => exact ⟨0, by omega, rfl, rfl, Below.refl _ _⟩
        case round =>
          obtain ⟨j, hmj, rfl, rfl, hbz⟩ := hrel
          have HM2 := Lib.hid hmj
          have HOZ := Lib.hid (HO1.out.later hbz)
          have KW := Lib.hid HOZ.out.1
          have HBZ := Lib.hid hbz
          have hj : j ≤ L.length := by omega
          clear hmj hbz
          by_cases hjl : j < L.length
          · obtain ⟨g, cg, sa, sc, hv, hg1, hg2, hc, hrow⟩ := HOZ.out.at_ hjl
            injection hv with e1 e2 e3
            subst e1
            have hji : (j : Int) < L.length := by omega
            have hj0 : (0 : Int) ≤ (j : Int) := by omega
            have HAS := Lib.hid (anyS_snoc (ys := seeO x0) hjl)
            have HSC := Lib.hid (And.intro hg2 (And.intro hc hrow.reads))
            have hsl : L[j].length ≤ 1000000 := by
              have := setsK_set (h := h) (k := k) (S := L[j]) (by rw [hSk]; exact List.getElem_mem hjl) HS.out (by omega)
              omega
            clear e2 e3 hg1 hg2 hc hrow
            generalize L[j] = S at *
            clear hjl
            cases hf : anyS (seeO x0) L j with
            | true =>
              have HG : Hid (anyS (seeO x0) L (j + 1) = true) := Lib.hid (by rw [HAS.out, hf]; rfl)
              clear hf HAS
              go_upto_region 10 with fail
              refine region_left [.is (.bool true), .is (.bool true), .is undef, .is undef, .is undef, .is undef, .is undef, .is undef, .is undef, .is undef, .is undef, .is undef, .is (.bool true), .is (.bool true)] (by kernel_rfl) rfl (by kernel_rfl) (by kernel_rfl) (.cons ?r1_0 (.cons ?r1_1 (.cons ?r1_2 (.cons ?r1_3 (.cons ?r1_4 (.cons ?r1_5 (.cons ?r1_6 (.cons ?r1_7 (.cons ?r1_8 (.cons ?r1_9 (.cons ?r1_10 (.cons ?r1_11 (.cons ?r1_12 (.cons ?r1_13 .nil)))))))))))))) ?r1_fin
              case r1_0 =>
                intro wq hbw st  K hK
                have KQ := KW.out.trans (hbw.mono KW.out.size)
                simp only [Act.put, List.setIfInBounds_toArray, List.set_cons_zero, List.set_cons_succ] at hK ⊢
                unfold opStep
                rw [if_pos (by rfl)]
                go_simp
                exact hK.out _ _ (Below.refl _ _) rfl _ rfl
              case r1_1 =>
                intro wq hbw st  K hK
                have KQ := KW.out.trans (hbw.mono KW.out.size)
                simp only [Act.put, List.setIfInBounds_toArray, List.set_cons_zero, List.set_cons_succ] at hK ⊢
                unfold opStep
                rw [if_pos (by rfl)]
                go_simp
                exact hK.out _ _ (Below.refl _ _) rfl _ rfl
              case r1_2 =>
                intro wq hbw st  K hK
                have KQ := KW.out.trans (hbw.mono KW.out.size)
                simp only [Act.put, List.setIfInBounds_toArray, List.set_cons_zero, List.set_cons_succ] at hK ⊢
                unfold opStep
                rw [if_neg (by change ¬ (false = true); exact Bool.false_ne_true)]
                exact hK.out _ _ (Below.refl _ _) rfl _ rfl
              case r1_3 =>
                intro wq hbw st  K hK
                have KQ := KW.out.trans (hbw.mono KW.out.size)
                simp only [Act.put, List.setIfInBounds_toArray, List.set_cons_zero, List.set_cons_succ] at hK ⊢
                unfold opStep
                rw [if_neg (by change ¬ (false = true); exact Bool.false_ne_true)]
                exact hK.out _ _ (Below.refl _ _) rfl _ rfl
              case r1_4 =>
                intro wq hbw st  K hK
                have KQ := KW.out.trans (hbw.mono KW.out.size)
                simp only [Act.put, List.setIfInBounds_toArray, List.set_cons_zero, List.set_cons_succ] at hK ⊢
                unfold opStep
                rw [if_neg (by change ¬ (false = true); exact Bool.false_ne_true)]
                exact hK.out _ _ (Below.refl _ _) rfl _ rfl
              case r1_5 =>
                intro wq hbw st  K hK
                have KQ := KW.out.trans (hbw.mono KW.out.size)
                simp only [Act.put, List.setIfInBounds_toArray, List.set_cons_zero, List.set_cons_succ] at hK ⊢
                unfold opStep
                rw [if_neg (by change ¬ (false = true); exact Bool.false_ne_true)]
                exact hK.out _ _ (Below.refl _ _) rfl _ rfl
              case r1_6 =>
                intro wq hbw st  K hK
                have KQ := KW.out.trans (hbw.mono KW.out.size)
                simp only [Act.put, List.setIfInBounds_toArray, List.set_cons_zero, List.set_cons_succ] at hK ⊢
                unfold opStep
                rw [if_neg (by change ¬ (false = true); exact Bool.false_ne_true)]
                exact hK.out _ _ (Below.refl _ _) rfl _ rfl
              case r1_7 =>
                intro wq hbw st  K hK
                have KQ := KW.out.trans (hbw.mono KW.out.size)
                simp only [Act.put, List.setIfInBounds_toArray, List.set_cons_zero, List.set_cons_succ] at hK ⊢
                unfold opStep
                rw [if_neg (by change ¬ (false = true); exact Bool.false_ne_true)]
                exact hK.out _ _ (Below.refl _ _) rfl _ rfl
              case r1_8 =>
                intro wq hbw st  K hK
                have KQ := KW.out.trans (hbw.mono KW.out.size)
                simp only [Act.put, List.setIfInBounds_toArray, List.set_cons_zero, List.set_cons_succ] at hK ⊢
                unfold opStep
                rw [if_neg (by change ¬ (false = true); exact Bool.false_ne_true)]
                exact hK.out _ _ (Below.refl _ _) rfl _ rfl
              case r1_9 =>
                intro wq hbw st  K hK
                have KQ := KW.out.trans (hbw.mono KW.out.size)
                simp only [Act.put, List.setIfInBounds_toArray, List.set_cons_zero, List.set_cons_succ] at hK ⊢
                unfold opStep
                rw [if_neg (by change ¬ (false = true); exact Bool.false_ne_true)]
                exact hK.out _ _ (Below.refl _ _) rfl _ rfl
              case r1_10 =>
                intro wq hbw st  K hK
                have KQ := KW.out.trans (hbw.mono KW.out.size)
                simp only [Act.put, List.setIfInBounds_toArray, List.set_cons_zero, List.set_cons_succ] at hK ⊢
                unfold opStep
                rw [if_neg (by change ¬ (false = true); exact Bool.false_ne_true)]
                exact hK.out _ _ (Below.refl _ _) rfl _ rfl
              case r1_11 =>
                intro wq hbw st  K hK
                have KQ := KW.out.trans (hbw.mono KW.out.size)
                simp only [Act.put, List.setIfInBounds_toArray, List.set_cons_zero, List.set_cons_succ] at hK ⊢
                unfold opStep
                rw [if_neg (by change ¬ (false = true); exact Bool.false_ne_true)]
                exact hK.out _ _ (Below.refl _ _) rfl _ rfl
              case r1_12 =>
                intro wq hbw st  K hK
                have KQ := KW.out.trans (hbw.mono KW.out.size)
                simp only [Act.put, List.setIfInBounds_toArray, List.set_cons_zero, List.set_cons_succ] at hK ⊢
                unfold opStep
                rw [if_pos (by rfl)]
                go_simp
                exact hK.out _ _ (Below.refl _ _) rfl _ rfl
              case r1_13 =>
                intro wq hbw st  K hK
                have KQ := KW.out.trans (hbw.mono KW.out.size)
                simp only [Act.put, List.setIfInBounds_toArray, List.set_cons_zero, List.set_cons_succ] at hK ⊢
                unfold opStep
                rw [if_pos (by rfl)]
                go_simp
                exact hK.out _ _ (Below.refl _ _) rfl _ rfl
              case r1_fin =>
                intro wq hbw
                try simp only [FinAll]
                simp only [Act.put, List.setIfInBounds_toArray, List.set_cons_zero, List.set_cons_succ]
                have K3 := Lib.hid (HBZ.out.trans (hbw.mono HBZ.out.size))
                clear hbw
                go_wp2
                go_roundg (L.length - (j + 1))
                case measure => have := HM2.out; omega
                case rel => exact ⟨j + 1, by omega, by go_num, by rw [HG.out], K3.out⟩
            | false =>
              cases hh : sameS S (seeO x0) with
              | false =>
                have P1 := Lib.hid hh
                have HG : Hid (anyS (seeO x0) L (j + 1) = false) := Lib.hid (by rw [HAS.out, hf, hh]; rfl)
                clear hf hh HAS
                go_upto_region 10 with fail
                refine region_left [.is (.bool false), .is (.bool false), .is (.slice (some ⟨g, 0, none⟩) L.length oc), .is (.int .i64 (j : Int)), .is (.pointer (some ⟨g, j, none⟩)), .is (.slice sa S.length sc), .is (.slice (some ⟨b, off, none⟩) h.length cap), .is (.int .i64 (k : Int)), .is (.pointer (some ⟨b, off + k * 6, none⟩)), .is (.pointer (some ⟨b, off + k * 6 + 5, none⟩)), .is (.slice a5 (seeO x0).length c5), .is (.bool false), .is (.bool false), .is (.bool false)] (by kernel_rfl) rfl (by kernel_rfl) (by kernel_rfl) (.cons ?r2_0 (.cons ?r2_1 (.cons ?r2_2 (.cons ?r2_3 (.cons ?r2_4 (.cons ?r2_5 (.cons ?r2_6 (.cons ?r2_7 (.cons ?r2_8 (.cons ?r2_9 (.cons ?r2_10 (.cons ?r2_11 (.cons ?r2_12 (.cons ?r2_13 .nil)))))))))))))) ?r2_fin
                case r2_0 =>
                  intro wq hbw st  K hK
                  have KQ := KW.out.trans (hbw.mono KW.out.size)
                  simp only [Act.put, List.setIfInBounds_toArray, List.set_cons_zero, List.set_cons_succ] at hK ⊢
                  unfold opStep
                  rw [if_pos (by rfl)]
                  go_simp
                  exact hK.out _ _ (Below.refl _ _) rfl _ rfl
                case r2_1 =>
                  intro wq hbw st  K hK
                  have KQ := KW.out.trans (hbw.mono KW.out.size)
                  simp only [Act.put, List.setIfInBounds_toArray, List.set_cons_zero, List.set_cons_succ] at hK ⊢
                  unfold opStep
                  rw [if_pos (by rfl)]
                  go_simp
                  exact hK.out _ _ (Below.refl _ _) rfl _ rfl
                case r2_2 =>
                  intro wq hbw st  K hK
                  have KQ := KW.out.trans (hbw.mono KW.out.size)
                  simp only [Act.put, List.setIfInBounds_toArray, List.set_cons_zero, List.set_cons_succ] at hK ⊢
                  unfold opStep
                  rw [if_pos (by rfl)]
                  go_simp
                  exact hK.out _ _ (Below.refl _ _) rfl _ rfl
                case r2_3 =>
                  intro wq hbw st  K hK
                  have KQ := KW.out.trans (hbw.mono KW.out.size)
                  simp only [Act.put, List.setIfInBounds_toArray, List.set_cons_zero, List.set_cons_succ] at hK ⊢
                  unfold opStep
                  rw [if_pos (by rfl)]
                  go_simp
                  exact hK.out _ _ (Below.refl _ _) rfl _ rfl
                case r2_4 =>
                  intro wq hbw st  K hK
                  have KQ := KW.out.trans (hbw.mono KW.out.size)
                  simp only [Act.put, List.setIfInBounds_toArray, List.set_cons_zero, List.set_cons_succ] at hK ⊢
                  unfold opStep
                  rw [if_pos (by rfl)]
                  go_simp
                  exact hK.out _ _ (Below.refl _ _) rfl _ rfl
                case r2_5 =>
                  intro wq hbw st  K hK
                  have KQ := KW.out.trans (hbw.mono KW.out.size)
                  simp only [Act.put, List.setIfInBounds_toArray, List.set_cons_zero, List.set_cons_succ] at hK ⊢
                  unfold opStep
                  rw [if_pos (by rfl)]
                  have cs := (hbw.cell (p := ⟨g, j, none⟩) HSC.out.1).trans HSC.out.2.1
                  go_simp
                  exact hK.out _ _ (Below.refl _ _) rfl _ rfl
                case r2_6 =>
                  intro wq hbw st  K hK
                  have KQ := KW.out.trans (hbw.mono KW.out.size)
                  simp only [Act.put, List.setIfInBounds_toArray, List.set_cons_zero, List.set_cons_succ] at hK ⊢
                  unfold opStep
                  rw [if_pos (by rfl)]
                  go_simp
                  exact hK.out _ _ (Below.refl _ _) rfl _ rfl
                case r2_7 =>
                  intro wq hbw st  K hK
                  have KQ := KW.out.trans (hbw.mono KW.out.size)
                  simp only [Act.put, List.setIfInBounds_toArray, List.set_cons_zero, List.set_cons_succ] at hK ⊢
                  unfold opStep
                  rw [if_pos (by rfl)]
                  go_simp
                  exact hK.out _ _ (Below.refl _ _) rfl _ rfl
                case r2_8 =>
                  intro wq hbw st  K hK
                  have KQ := KW.out.trans (hbw.mono KW.out.size)
                  simp only [Act.put, List.setIfInBounds_toArray, List.set_cons_zero, List.set_cons_succ] at hK ⊢
                  unfold opStep
                  rw [if_pos (by rfl)]
                  go_simp
                  exact hK.out _ _ (Below.refl _ _) rfl _ rfl
                case r2_9 =>
                  intro wq hbw st  K hK
                  have KQ := KW.out.trans (hbw.mono KW.out.size)
                  simp only [Act.put, List.setIfInBounds_toArray, List.set_cons_zero, List.set_cons_succ] at hK ⊢
                  unfold opStep
                  rw [if_pos (by rfl)]
                  go_simp
                  exact hK.out _ _ (Below.refl _ _) rfl _ rfl
                case r2_10 =>
                  intro wq hbw st  K hK
                  have KQ := KW.out.trans (hbw.mono KW.out.size)
                  simp only [Act.put, List.setIfInBounds_toArray, List.set_cons_zero, List.set_cons_succ] at hK ⊢
                  unfold opStep
                  rw [if_pos (by rfl)]
                  have d5 := (HN.out.1 wq KQ).2.2.2.2.2
                  go_simp
                  exact hK.out _ _ (Below.refl _ _) rfl _ rfl
                case r2_11 =>
                  intro wq hbw st  K hK
                  have KQ := KW.out.trans (hbw.mono KW.out.size)
                  simp only [Act.put, List.setIfInBounds_toArray, List.set_cons_zero, List.set_cons_succ] at hK ⊢
                  unfold opStep
                  rw [if_pos (by rfl)]
                  go_simp
                  have hpc := rsame_any _ _ S (seeO x0) wq (HSC.out.2.2.keep hbw) (HN.out.2.2.keep KQ) (by omega) (by omega)
                  rw [P1.out] at hpc
                  refine hpc.mono ?_
                  rintro e wz ⟨rfl, hbz⟩
                  go_simp
                  exact hK.out _ _ hbz rfl _ rfl
                case r2_12 =>
                  intro wq hbw st  K hK
                  have KQ := KW.out.trans (hbw.mono KW.out.size)
                  simp only [Act.put, List.setIfInBounds_toArray, List.set_cons_zero, List.set_cons_succ] at hK ⊢
                  unfold opStep
                  rw [if_pos (by rfl)]
                  go_simp
                  exact hK.out _ _ (Below.refl _ _) rfl _ rfl
                case r2_13 =>
                  intro wq hbw st  K hK
                  have KQ := KW.out.trans (hbw.mono KW.out.size)
                  simp only [Act.put, List.setIfInBounds_toArray, List.set_cons_zero, List.set_cons_succ] at hK ⊢
                  unfold opStep
                  rw [if_pos (by rfl)]
                  go_simp
                  exact hK.out _ _ (Below.refl _ _) rfl _ rfl
                case r2_fin =>
                  intro wq hbw
                  try simp only [FinAll]
                  simp only [Act.put, List.setIfInBounds_toArray, List.set_cons_zero, List.set_cons_succ]
                  have K3 := Lib.hid (HBZ.out.trans (hbw.mono HBZ.out.size))
                  clear hbw
                  go_wp2
                  go_roundg (L.length - (j + 1))
                  case measure => have := HM2.out; omega
                  case rel => exact ⟨j + 1, by omega, by go_num, by rw [HG.out], K3.out⟩
              | true =>
                have P1 := Lib.hid hh
                have HG : Hid (anyS (seeO x0) L (j + 1) = true) := Lib.hid (by rw [HAS.out, hf, hh]; rfl)
                clear hf hh HAS
                go_upto_region 10 with fail
                refine region_left [.is (.bool false), .is (.bool false), .is (.slice (some ⟨g, 0, none⟩) L.length oc), .is (.int .i64 (j : Int)), .is (.pointer (some ⟨g, j, none⟩)), .is (.slice sa S.length sc), .is (.slice (some ⟨b, off, none⟩) h.length cap), .is (.int .i64 (k : Int)), .is (.pointer (some ⟨b, off + k * 6, none⟩)), .is (.pointer (some ⟨b, off + k * 6 + 5, none⟩)), .is (.slice a5 (seeO x0).length c5), .is (.bool true), .is (.bool true), .is (.bool true)] (by kernel_rfl) rfl (by kernel_rfl) (by kernel_rfl) (.cons ?r3_0 (.cons ?r3_1 (.cons ?r3_2 (.cons ?r3_3 (.cons ?r3_4 (.cons ?r3_5 (.cons ?r3_6 (.cons ?r3_7 (.cons ?r3_8 (.cons ?r3_9 (.cons ?r3_10 (.cons ?r3_11 (.cons ?r3_12 (.cons ?r3_13 .nil)))))))))))))) ?r3_fin
                case r3_0 =>
                  intro wq hbw st  K hK
                  have KQ := KW.out.trans (hbw.mono KW.out.size)
                  simp only [Act.put, List.setIfInBounds_toArray, List.set_cons_zero, List.set_cons_succ] at hK ⊢
                  unfold opStep
                  rw [if_pos (by rfl)]
                  go_simp
                  exact hK.out _ _ (Below.refl _ _) rfl _ rfl
                case r3_1 =>
                  intro wq hbw st  K hK
                  have KQ := KW.out.trans (hbw.mono KW.out.size)
                  simp only [Act.put, List.setIfInBounds_toArray, List.set_cons_zero, List.set_cons_succ] at hK ⊢
                  unfold opStep
                  rw [if_pos (by rfl)]
                  go_simp
                  exact hK.out _ _ (Below.refl _ _) rfl _ rfl
                case r3_2 =>
                  intro wq hbw st  K hK
                  have KQ := KW.out.trans (hbw.mono KW.out.size)
                  simp only [Act.put, List.setIfInBounds_toArray, List.set_cons_zero, List.set_cons_succ] at hK ⊢
                  unfold opStep
                  rw [if_pos (by rfl)]
                  go_simp
                  exact hK.out _ _ (Below.refl _ _) rfl _ rfl
                case r3_3 =>
                  intro wq hbw st  K hK
                  have KQ := KW.out.trans (hbw.mono KW.out.size)
                  simp only [Act.put, List.setIfInBounds_toArray, List.set_cons_zero, List.set_cons_succ] at hK ⊢
                  unfold opStep
                  rw [if_pos (by rfl)]
                  go_simp
                  exact hK.out _ _ (Below.refl _ _) rfl _ rfl
                case r3_4 =>
                  intro wq hbw st  K hK
                  have KQ := KW.out.trans (hbw.mono KW.out.size)
                  simp only [Act.put, List.setIfInBounds_toArray, List.set_cons_zero, List.set_cons_succ] at hK ⊢
                  unfold opStep
                  rw [if_pos (by rfl)]
                  go_simp
                  exact hK.out _ _ (Below.refl _ _) rfl _ rfl
                case r3_5 =>
                  intro wq hbw st  K hK
                  have KQ := KW.out.trans (hbw.mono KW.out.size)
                  simp only [Act.put, List.setIfInBounds_toArray, List.set_cons_zero, List.set_cons_succ] at hK ⊢
                  unfold opStep
                  rw [if_pos (by rfl)]
                  have cs := (hbw.cell (p := ⟨g, j, none⟩) HSC.out.1).trans HSC.out.2.1
                  go_simp
                  exact hK.out _ _ (Below.refl _ _) rfl _ rfl
                case r3_6 =>
                  intro wq hbw st  K hK
                  have KQ := KW.out.trans (hbw.mono KW.out.size)
                  simp only [Act.put, List.setIfInBounds_toArray, List.set_cons_zero, List.set_cons_succ] at hK ⊢
                  unfold opStep
                  rw [if_pos (by rfl)]
                  go_simp
                  exact hK.out _ _ (Below.refl _ _) rfl _ rfl
                case r3_7 =>
                  intro wq hbw st  K hK
                  have KQ := KW.out.trans (hbw.mono KW.out.size)
                  simp only [Act.put, List.setIfInBounds_toArray, List.set_cons_zero, List.set_cons_succ] at hK ⊢
                  unfold opStep
                  rw [if_pos (by rfl)]
                  go_simp
                  exact hK.out _ _ (Below.refl _ _) rfl _ rfl
                case r3_8 =>
                  intro wq hbw st  K hK
                  have KQ := KW.out.trans (hbw.mono KW.out.size)
                  simp only [Act.put, List.setIfInBounds_toArray, List.set_cons_zero, List.set_cons_succ] at hK ⊢
                  unfold opStep
                  rw [if_pos (by rfl)]
                  go_simp
                  exact hK.out _ _ (Below.refl _ _) rfl _ rfl
                case r3_9 =>
                  intro wq hbw st  K hK
                  have KQ := KW.out.trans (hbw.mono KW.out.size)
                  simp only [Act.put, List.setIfInBounds_toArray, List.set_cons_zero, List.set_cons_succ] at hK ⊢
                  unfold opStep
                  rw [if_pos (by rfl)]
                  go_simp
                  exact hK.out _ _ (Below.refl _ _) rfl _ rfl
                case r3_10 =>
                  intro wq hbw st  K hK
                  have KQ := KW.out.trans (hbw.mono KW.out.size)
                  simp only [Act.put, List.setIfInBounds_toArray, List.set_cons_zero, List.set_cons_succ] at hK ⊢
                  unfold opStep
                  rw [if_pos (by rfl)]
                  have d5 := (HN.out.1 wq KQ).2.2.2.2.2
                  go_simp
                  exact hK.out _ _ (Below.refl _ _) rfl _ rfl
                case r3_11 =>
                  intro wq hbw st  K hK
                  have KQ := KW.out.trans (hbw.mono KW.out.size)
                  simp only [Act.put, List.setIfInBounds_toArray, List.set_cons_zero, List.set_cons_succ] at hK ⊢
                  unfold opStep
                  rw [if_pos (by rfl)]
                  go_simp
                  have hpc := rsame_any _ _ S (seeO x0) wq (HSC.out.2.2.keep hbw) (HN.out.2.2.keep KQ) (by omega) (by omega)
                  rw [P1.out] at hpc
                  refine hpc.mono ?_
                  rintro e wz ⟨rfl, hbz⟩
                  go_simp
                  exact hK.out _ _ hbz rfl _ rfl
                case r3_12 =>
                  intro wq hbw st  K hK
                  have KQ := KW.out.trans (hbw.mono KW.out.size)
                  simp only [Act.put, List.setIfInBounds_toArray, List.set_cons_zero, List.set_cons_succ] at hK ⊢
                  unfold opStep
                  rw [if_pos (by rfl)]
                  go_simp
                  exact hK.out _ _ (Below.refl _ _) rfl _ rfl
                case r3_13 =>
                  intro wq hbw st  K hK
                  have KQ := KW.out.trans (hbw.mono KW.out.size)
                  simp only [Act.put, List.setIfInBounds_toArray, List.set_cons_zero, List.set_cons_succ] at hK ⊢
                  unfold opStep
                  rw [if_pos (by rfl)]
                  go_simp
                  exact hK.out _ _ (Below.refl _ _) rfl _ rfl
                case r3_fin =>
                  intro wq hbw
                  try simp only [FinAll]
                  simp only [Act.put, List.setIfInBounds_toArray, List.set_cons_zero, List.set_cons_succ]
                  have K3 := Lib.hid (HBZ.out.trans (hbw.mono HBZ.out.size))
                  clear hbw
                  go_wp2
                  go_roundg (L.length - (j + 1))
                  case measure => have := HM2.out; omega
                  case rel => exact ⟨j + 1, by omega, by go_num, by rw [HG.out], K3.out⟩
          · have hjj : j = L.length := by omega
            subst hjj
            cases hf : anyS (seeO x0) L L.length with
            | true =>
              have HG := Lib.hid (HOLD.out hf)
              clear hf
              go_wp2
              go_roundg (h.length - (k + 1))
              case measure => have := HM.out; omega
              case rel => exact ⟨k + 1, by omega, by go_num, by rw [HG.out]; exact HOZ.out⟩
            | false =>
              have HG := Lib.hid (HNEW.out HR1.out hf)
              clear hf
              obtain ⟨d0, d1, d2, d3, d4, d5⟩ := HN.out.1 _ KW.out
              go_wp2_with fail
              refine (rof_any _ (seeO x0) _ (HN.out.2.2.keep KW.out) (by omega)).mono ?_
              rintro e w3 ⟨vset, rfl, hown3, hb3⟩
              have HRS := Lib.hid (rowS_of hown3)
              have HO3 := Lib.hid (HOZ.out.later hb3)
              have HBX : Hid (∀ c, Below w3.heap.size w3 (w3.alloc c)) := Lib.hid fun c => (Below.refl _ _).alloc (Nat.le_refl _) c
              clear hown3 hb3 d0 d1 d2 d3 d4 d5 HOZ
              obtain ⟨sa, sk, rfl⟩ := rowS_slc HRS.out
              go_wp2_with (first | (at_builtin; refine append_setC rfl _ _ rfl (.slice oa L.length oc) L (ofL (seeO x0)) (.slice sa (ofL (seeO x0)).length sk) w3.heap.size rfl (HO3.out.later (HBX.out _)) rfl (Blk.new _ _ _) (HRS.out.kept (KeepS.of (HBX.out _))) (by omega) ?_))
              intro v4 w4 hown4 hk4
              have HO4 := Lib.hid hown4
              clear hown4 hk4 HBX HRS HO3
              go_wp2
              go_roundg (h.length - (k + 1))
              case measure => have := HM.out; omega
              case rel => exact ⟨k + 1, by omega, by go_num, by rw [HG.out]; exact HO4.out⟩
    · have hkk : k = h.length := by omega
      subst hkk
      generalize hU : setsK h h.length = U at *
      go_wp2
      go_loopg [7] U.length (fun m i wz => ∃ (i0 : Nat) (L : List (List Str)), m + i0 = U.length ∧ i = .int .i64 ((i0 : Nat) : Int) ∧ ExS ltS U i0 (i0 + 1) L ∧ OwnC W wz (.slice oa U.length oc) L)
      case atStart => exact ⟨0, U, by omega, rfl, ExS.start U, HO.out⟩
      case round =>
        obtain ⟨i0, L, hmi, rfl, hex, hown⟩ := hrel
        have HM3 := Lib.hid hmi
        have HEX := Lib.hid hex
        have HOL := Lib.hid hown
        have HLL := Lib.hid hex.perm.length_eq
        have hi : i0 ≤ U.length := by omega
        clear hmi hex hown HO KW
        by_cases hil : i0 < U.length
        · have hii : (i0 : Int) < U.length := by omega
          have hi0 : (0 : Int) ≤ (i0 : Int) := by omega
          have HIL := Lib.hid (And.intro hil trivial)
          go_wp2
          obtain ⟨wy, hwy⟩ : ∃ x, x = wr := ⟨_, rfl⟩
          rw [← hwy] at HOL ⊢
          clear hwy
          obtain ⟨G2, hG2⟩ : ∃ G, G = gk := ⟨_, rfl⟩
          subst hG2
          go_loopg [8] (U.length - (i0 + 1)) (fun m i wz => ∃ (k0 : Nat) (L : List (List Str)), m + k0 = U.length ∧ i0 < k0 ∧ i = .int .i64 ((k0 : Nat) : Int) ∧ ExS ltS U i0 k0 L ∧ OwnC W wz (.slice oa U.length oc) L)
          case atStart => exact ⟨i0 + 1, L, by omega, by omega, by go_num, HEX.out, HOL.out⟩
          case round =>
            clear HEX HOL HLL
            obtain ⟨k0, L, hmk, hik, rfl, hex, hown⟩ := hrel
            have HM4 := Lib.hid hmk
            have HEX := Lib.hid hex
            have HOL := Lib.hid hown
            have HLL := Lib.hid hex.perm.length_eq
            have hk : k0 ≤ U.length := by omega
            clear hmk hex hown hil
            by_cases hkl : k0 < U.length
            · have hki : (k0 : Int) < U.length := by omega
              have hk0 : (0 : Int) ≤ (k0 : Int) := by omega
              have hiL : i0 < L.length := by rw [HLL.out]; exact HIL.out.1
              have hkL : k0 < L.length := by rw [HLL.out]; exact hkl
              obtain ⟨g, cg, ai, ci, ak, ck, hv, hg1, hg2, hc1, hc2, hr1, hr2, hf1, hf2⟩ := HOL.out.two hiL hkL
              injection hv with e1 e2 e3
              subst e1
              have HRR := Lib.hid (And.intro hr1 hr2)
              have HSW : Hid (ltS L[k0] L[i0] → ExS ltS U i0 (k0 + 1) (swp L i0 k0)) := Lib.hid fun q => HEX.out.swap ltS_asymm ltS_trans hik hkL q
              have HSK : Hid (¬ ltS L[k0] L[i0] → ExS ltS U i0 (k0 + 1) L) := Lib.hid fun q => HEX.out.skip fun _ _ => q
              have HPUT : Hid (∀ w', OwnC W w' (.slice (some ⟨g, 0, none⟩) U.length oc) L → RowS w' (.slice ai L[i0].length ci) L[i0] → RowS w' (.slice ak L[k0].length ck) L[k0] → OwnC W ((w'.setCell ⟨g, i0, none⟩ (.slice ak L[k0].length ck)).setCell ⟨g, k0, none⟩ (.slice ai L[i0].length ci)) (.slice (some ⟨g, 0, none⟩) U.length oc) (swp L i0 k0)) := Lib.hid fun w' a b c => a.swap hiL hkL b c
              have HIK := Lib.hid hik
              clear e2 e3 hg1 hg2 hr1 hr2 hik
              generalize L[k0] = Sk at *
              generalize L[i0] = Si at *
              clear hiL hkL hkl
              by_cases hlt : Sk.length < Si.length
              · have HG := Lib.hid (HSW.out hlt)
                have hlti : (Sk.length : Int) < Si.length := by omega
                clear HSW HSK hlt
                go_wp2
                go_quiet (fail)
                go_wp2
                have hik := HIK.out
                have hne : ¬ k0 = i0 := by omega
                have hne2 : ¬ i0 = k0 := by omega
                go_region
                all_goals clear hne hne2 hik
                all_goals go_wp2
                go_roundg (U.length - (k0 + 1))
                case measure => have := HM4.out; omega
                case rel => exact ⟨k0 + 1, _, by omega, by have := HIK.out; omega, by go_num, HG.out, HPUT.out _ (HOL.out.later (below_drewN _)) (HRR.out.1.kept (KeepS.of (below_drewN _))) (HRR.out.2.kept (KeepS.of (below_drewN _)))⟩
              · have HG := Lib.hid (HSK.out hlt)
                have hlti : ¬ (Sk.length : Int) < Si.length := by omega
                clear HSW HSK hlt HPUT
                go_wp2
                go_quiet (fail)
                go_wp2
                go_roundg (U.length - (k0 + 1))
                case measure => have := HM4.out; omega
                case rel => exact ⟨k0 + 1, _, by omega, by have := HIK.out; omega, by go_num, HG.out, HOL.out.later (below_drewN _)⟩
            · have HG := Lib.hid (HEX.out.next (by rw [HLL.out]; omega))
              go_wp2
              go_roundg (U.length - (i0 + 1))
              case measure => have := HM3.out; omega
              case rel => exact ⟨i0 + 1, _, by omega, by go_num, HG.out, HOL.out⟩
        · have HE := Lib.hid (HFIN.out L HEX.out.perm (HEX.out.sorted (by rw [HLL.out]; omega)))
          go_wp2
          go_ret
          rw [HE.out] at HOL
          exact ⟨_, rfl, HOL.out⟩
end Go.Proofs.YtjijlhjggpibjaaGreat
namespace Go.Proofs.YtjijlhjggpibjaaGreat
open Go.RowKit

theorem OwnC.base {w1 w2 w3 : World} {v : Value} {C : List (List Str)} (hb : Below w1.heap.size w1 w2) (h : OwnC w2 w3 v C) : OwnC w1 w3 v C := by
  obtain ⟨h1, cells, h2, h3⟩ := h
  refine ⟨hb.trans (h1.mono hb.size), cells, ⟨h2.1, ?_⟩, h3⟩
  rcases h2.2 with hn | ⟨g, cap, cur, hv, hbb, rest⟩
  · exact .inl hn
  · exact .inr ⟨g, cap, cur, hv, Nat.le_trans hb.size hbb, rest⟩
set_option maxRecDepth 100000 in
set_option maxHeartbeats 8000000 in
theorem rchain_any (v : Value) (h : List Opn) (W : World) (hr : ReadsO W v h) (hs : SmallH h) : Calls Tryz.prog 9 #[v] W (ChainMade W (chainR h)) := by
  have HR := Lib.hid hr
  have HS := Lib.hid hs
  have HCH := Lib.hid (rcheck_any v h W hr hs)
  obtain ⟨ao, cap, rfl, hl, hm, -, -⟩ := hr
  unfold maxLen at hm
  clear hs
  unfold ChkMade at HCH
  go_enter Tryz.func9, Tryz.ntmps9
  go_wp2_with fail
  refine HCH.out.mono ?_
  rintro e w1 ⟨rfl, hb1⟩
  have KW1 := Lib.hid hb1
  clear hb1 HCH
  by_cases h0 : (chkL h).2 = 0
  · have HW := Lib.hid (chk_well.1 h0)
    have H0 := Lib.hid h0
    have e0 := bne_f h0
    clear h0
    go_wp2_with fail
    refine (find_any _ h 4 (by decide) (by decide) _ (HR.out.on KW1.out) HS.out).mono ?_
    rintro e w2 ⟨v2, rfl, hr2, hb2⟩
    have K2 := Lib.hid (KW1.out.trans (hb2.mono KW1.out.size))
    obtain ⟨a2, k2, rfl, _, _⟩ := slcI hr2
    clear hb2 hr2 e0
    by_cases hf : refF h 4 = []
    · obtain ⟨C, hc, hd⟩ := chain_some HW.out (cmp_ref.1 hf)
      have HC := Lib.hid hc
      have HST := Lib.hid (sets_any _ h _ (HR.out.on K2.out) HS.out C HW.out hd)
      rw [hf]
      clear hf hc hd
      go_wp2_with fail
      refine HST.out.mono ?_
      rintro e w3 ⟨v3, rfl, hown⟩
      have HO := Lib.hid (OwnC.base K2.out hown)
      clear hown HST
      go_wp2
      go_ret2
      exact chain_yes HC.out HO.out
    · have HE := Lib.hid (chain_none.2 fun q => hf q.2)
      have hp : 0 < (refF h 4).length := List.length_pos_iff.2 hf
      have hpi : (0 : Int) < ((refF h 4).length : Int) := by omega
      clear hf hp
      generalize refF h 4 = xs at *
      go_wp2
      go_ret2
      exact chain_no HE.out K2.out
  · have HE := Lib.hid (chain_none.2 fun q => h0 q.1)
    have e0 := bne_t h0
    clear h0
    go_wp2
    go_ret2
    exact chain_no HE.out KW1.out
end Go.Proofs.YtjijlhjggpibjaaGreat
namespace Go.Proofs.YtjijlhjggpibjaaGreat
open Go.RowKit

theorem same02_any (v u : Value) (xs ys : List Str) (w : World) (hr : Reads vs w v xs) (hs : Reads vs w u ys) :
    Calls Tryz.prog 11 #[v, u] w fun e w' => e = .returned (.bool (decide (xs = ys))) ∧ Drew w w' := by
  obtain ⟨ao, cap, rfl, hl, hm, hn, hx⟩ := hr
  obtain ⟨ao', cap', rfl, hl', hm', hn', hx'⟩ := hs
  unfold maxLen at hm hm'
  by_cases hnm : xs.length = ys.length
  · have HN := Lib.hid hnm
    rw [← hnm]
    rw [← hnm] at hl'
    clear hnm
    go_enter Tryz.func11, Tryz.ntmps11
    go_wp2
    go_loopw [5] (fun i wr => ∃ k : Nat, k ≤ xs.length ∧ i = .int .i64 k ∧ xs.take k = ys.take k ∧ Drew w wr) (fun i _ => xs.length - (intOf i).toNat)
    case atStart => exact ⟨0, by omega, rfl, by simp, Drew.refl _⟩
    case round =>
      obtain ⟨k, hk, rfl, hp, hw⟩ := hrel
      have HP := Lib.hid hp
      clear hp
      by_cases hlt : k < xs.length
      · have hlt' : k < ys.length := by rw [← HN.out]; exact hlt
        obtain ⟨b, off, rfl, hb, hc⟩ := hx (by intro e; subst e; simp at hlt)
        obtain ⟨b', off', rfl, hb', hc'⟩ := hx' (by intro e; subst e; simp at hlt')
        have h1 : wr.cell? ⟨b, off + k, none⟩ = some (.string (toB xs[k])) := (hw.cell _).trans (hc k hlt)
        have h2 : wr.cell? ⟨b', off' + k, none⟩ = some (.string (toB ys[k])) := (hw.cell _).trans (hc' k hlt')
        clear hc hx hn hc' hx' hn'
        by_cases hd : xs[k] = ys[k]
        · have hB : ((toB xs[k]).toList != (toB ys[k]).toList) = false := by rw [bne, beq_toB, decide_eq_true hd]; rfl
          have hB2 : ((toB xs[k]).toList == (toB ys[k]).toList) = true := by rw [beq_toB]; exact decide_eq_true hd
          have HD := Lib.hid hd
          clear hd
          go_wp2
          go_quiet (fail)
          go_wp2
          go_roundw
          case rel => exact ⟨k + 1, by omega, by go_num, by rw [List.take_succ_eq_append_getElem hlt, List.take_succ_eq_append_getElem hlt', HP.out, HD.out], hw.step _⟩
          case measure => simp [intOf]; omega
        · have hB : ((toB xs[k]).toList != (toB ys[k]).toList) = true := by rw [bne, beq_toB, decide_eq_false hd]; rfl
          have hB2 : ((toB xs[k]).toList == (toB ys[k]).toList) = false := by rw [beq_toB]; exact decide_eq_false hd
          have HD := Lib.hid hd
          clear hd
          go_wp2
          go_quiet (fail)
          go_wp2
          go_ret
          exact ⟨ret_bool (decide_eq_false (fun e => HD.out (by subst e; rfl))).symm, hw.step _⟩
      · go_wp2
        go_ret
        refine ⟨ret_bool (decide_eq_true ?_).symm, hw⟩
        have := HP.out
        rwa [List.take_of_length_le (by omega), List.take_of_length_le (by rw [← HN.out]; omega)] at this
  · have hne : ((xs.length : Int) != (ys.length : Int)) = true := by rw [bne_iff_ne]; omega
    go_enter Tryz.func11, Tryz.ntmps11
    go_wp2
    go_ret
    exact ⟨ret_bool (decide_eq_false (fun e => hnm (by rw [e]))).symm, Drew.refl _⟩

end Go.Proofs.YtjijlhjggpibjaaGreat
