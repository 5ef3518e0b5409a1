/-
  Chapter 55: Chain.
-/
import Derived.Test.YtjijlhjggpibjaaGreatGc
import Derived.Test.YtjijlhjggpibjaaGreatEq
namespace Go.Proofs.YtjijlhjggpibjaaGreat
open Go.RowKit

def ChainMade (W : World) (q : Option (List (List Str))) (e : Ending) (w' : World) : Prop := match q with
  | none => e = .returned (.tuple #[.slice none 0 0, .bool false]) ∧ Below W.heap.size W w'
  | some C => ∃ v, e = .returned (.tuple #[v, .bool true]) ∧ OwnC W w' v C
theorem chain_yes {W w' : World} {q : Option (List (List Str))} {C : List (List Str)} {v : Value} (hc : q = some C) (ho : OwnC W w' v C) : ChainMade W q (.returned (.tuple #[v, .bool true])) w' := by
  subst hc; exact ⟨v, rfl, ho⟩
theorem chain_no {W w' : World} {q : Option (List (List Str))} (hc : q = none) (hb : Below W.heap.size W w') : ChainMade W q (.returned (.tuple #[.slice none 0 0, .bool false])) w' := by
  subst hc; exact ⟨rfl, hb⟩

set_option maxRecDepth 100000 in
set_option maxHeartbeats 16000000 in
theorem chain_any (v : Value) (h : List Opn) (W : World) (hr : ReadsO W v h) (hs : SmallH h) : Calls Tryz.prog 8 #[v] W (ChainMade W (chainR h)) := by
  have HR := Lib.hid hr
  have HS := Lib.hid hs
  have HCH := Lib.hid (check_any v h W hr hs)
  have hn := hs.1
  obtain ⟨ao, cap, rfl, hl, hm, -, -⟩ := hr
  unfold maxLen at hm
  clear hs
  unfold ChkMade at HCH
  go_enter Tryz.func8, Tryz.ntmps8
  go_wp2_with fail
  refine HCH.out.mono ?_
  rintro e w1 ⟨rfl, hb1⟩
  have KW1 := Lib.hid hb1
  clear hb1 HCH
  by_cases h0 : (chkL h).2 = 0
  · have HCR : Hid (chainR h = chainK h h.length) := Lib.hid (if_pos h0)
    have e0 := bne_f h0
    clear h0
    have HO0 := Lib.hid ((OwnC.nil W).later KW1.out)
    go_wp2
    go_loopg [6, 23] h.length (fun m o i wr => ∃ k C, m + k = h.length ∧ i = .int .i64 ((k : Nat) : Int) ∧ chainK h k = some C ∧ OwnC W wr o C)
    case atStart => exact ⟨0, [], by omega, rfl, rfl, HO0.out⟩
    case round =>
      clear HO0 KW1
      obtain ⟨k, C, hmk, rfl, hck, hown⟩ := hrel
      have HM := Lib.hid hmk
      have HCK := Lib.hid hck
      have HO := Lib.hid hown
      have KW := Lib.hid hown.1
      have hk : k ≤ h.length := by omega
      have hcl := chainK_len hck
      obtain ⟨oa, oc, rfl⟩ : ∃ a c, u6 = .slice a C.length c := by obtain ⟨_, cells, h2, _⟩ := hown; exact row_slc h2
      clear hmk hck hown
      by_cases hlt : k < h.length
      · obtain ⟨b, off, cap1, a4, c4, a5, c5, hv, _, _, hm4, hm5, hl4, hl5, hcell, r1, r2⟩ := HR.out.at2 hlt
        injection hv with e1 e2 e3
        subst e1
        have hki : (k : Int) < h.length := by omega
        have hk0 : (0 : Int) ≤ (k : Int) := by omega
        have dd := Lib.hid (hcell wr KW.out)
        have x0 := dd.out.1
        have x1 := dd.out.2.1
        have x2 := dd.out.2.2.1
        have x3 := dd.out.2.2.2.1
        have x4 := dd.out.2.2.2.2.1
        have x5 := dd.out.2.2.2.2.2
        have HNX : Hid (nth h k = h[k]) := Lib.hid (nth_eq hlt)
        have hls := (HS.out.2 _ (List.getElem_mem hlt)).2.1
        have HN := Lib.hid (And.intro r1 r2)
        have HRD : Hid (RdI h k ↔ kindO h[k] = 2 ∧ 0 ≤ endO h[k]) := Lib.hid (by unfold RdI; rw [HNX.out])
        have HST : Hid (setI h k = ofL (seeO h[k])) := Lib.hid (by unfold setI; rw [HNX.out])
        clear e2 e3 hcell r1 r2 dd HNX
        generalize h[k] = x at *
        have HAL : Hid (∀ o, Below wr.heap.size wr (wr.alloc o)) := Lib.hid fun o => (Below.refl _ _).alloc (Nat.le_refl _) o
        clear hlt
        by_cases hk2 : kindO x = 2
        · have e2 := bne_f hk2
          by_cases he : 0 ≤ endO x
          · have HU : Hid (RdI h k) := Lib.hid (HRD.out.2 ⟨hk2, he⟩)
            clear hk2 HRD
            go_wp2_with fail
            refine (of_any _ (seeO x) _ ((HN.out.2.keep KW.out).keep (HAL.out _)) (by omega)).mono ?_
            rintro e w2 ⟨vset, rfl, hown2, hb2⟩
            have HRS := Lib.hid (rowS_of hown2)
            have HO2 := Lib.hid ((HO.out.later (HAL.out _)).later hb2)
            have KW2 := Lib.hid HO2.out.1
            have hxl : (ofL (seeO x)).length ≤ 1000 := Nat.le_trans (ofL_length _) hls
            clear hown2 hb2 HO HN HAL x0 x1 x2 x3 x4 x5 he
            rw [← HST.out] at HRS hxl
            have HBD : Hid (badL (setI h k) C = true → chainK h (k + 1) = none) := Lib.hid fun q => chainK_bad HCK.out HU.out q
            have HOK : Hid (badL (setI h k) C = false → chainK h (k + 1) = some (insC C (setI h k))) := Lib.hid fun q => chainK_ok HCK.out HU.out q
            generalize setI h k = X at *
            obtain ⟨sa, sk, rfl⟩ := rowS_slc HRS.out
            clear HST
            go_wp2
            obtain ⟨G2, hG2⟩ : ∃ G, G = gk := ⟨_, rfl⟩
            subst hG2
            go_loopg [10, 11, 40] C.length (fun m a s i wz => ∃ j : Nat, m + j = C.length ∧ i = .int .i64 (j : Int) ∧ a = .int .i64 ((atL X (C.take j) : Nat) : Int) ∧ s = .bool (decide (X ∈ C.take j)) ∧ badL X (C.take j) = false ∧ Below w2.heap.size w2 wz)
            case atStart => exact ⟨0, by omega, rfl, rfl, by simp, rfl, Below.refl _ _⟩
            case round =>
              obtain ⟨j, hmj, rfl, rfl, rfl, hbad, hbz⟩ := hrel
              have HM2 := Lib.hid hmj
              have HBAD := Lib.hid hbad
              have HZ := Lib.hid hbz
              have HOZ := Lib.hid (HO2.out.later hbz)
              have HRZ := Lib.hid (HRS.out.kept (KeepS.of hbz))
              have hj : j ≤ C.length := by omega
              clear hmj hbad hbz
              by_cases hjl : j < C.length
              · obtain ⟨g, cg, a, c, hv, hg1, hg2, hc, hrow⟩ := HOZ.out.at_ hjl
                injection hv with e1 e2 e3
                subst e1
                have hji : (j : Int) < C.length := by omega
                have hj0 : (0 : Int) ≤ (j : Int) := by omega
                have hal : atL X (C.take j) ≤ 1000 := Nat.le_trans (atL_le _ _) (by rw [List.length_take]; omega)
                have HTK := Lib.hid (List.take_succ_eq_append_getElem hjl)
                have HAS : Hid (atL X (C.take (j + 1)) = atL X (C.take j) + if (!decide (C[j] = X) && subB C[j] X) = true then 1 else 0) := Lib.hid (by rw [HTK.out, atL_snoc])
                have HBS : Hid (badL X (C.take (j + 1)) = (!decide (C[j] = X) && !subB C[j] X && !subB X C[j])) := Lib.hid (by rw [HTK.out, badL_snoc, HBAD.out, Bool.false_or])
                have HIS : Hid (X ∈ C.take (j + 1) ↔ X ∈ C.take j ∨ C[j] = X) := Lib.hid (by rw [HTK.out, List.mem_append, List.mem_singleton]; exact or_congr Iff.rfl eq_comm)
                have HRW := Lib.hid hrow
                have HCN : Hid (badL X (C.take (j + 1)) = true → chainR h = none) := Lib.hid fun hb => by
                  rw [HCR.out]
                  exact chainK_none (HBD.out (badL_mono hb)) _ (by omega)
                clear e2 e3 hg1 hg2 hrow HTK
                generalize C[j] = S at *
                generalize atL X (C.take j) = n at *
                clear hjl
                go_wp2_with fail
                refine (equal_any _ _ S X _ HRW.out.reads HRZ.out.reads).mono ?_
                rintro e w3 ⟨rfl, hd⟩
                have HZ3 := Lib.hid (HZ.out.trans (hd.below))
                have HR3 := Lib.hid (HRZ.out.kept (KeepS.of hd.below))
                have HW3 := Lib.hid (HRW.out.kept (KeepS.of hd.below))
                clear hd hc HZ HRZ HRW HOZ
                by_cases hSX : S = X
                · have HEQ := Lib.hid (decide_eq_true hSX)
                  have HN1 : Hid (atL X (C.take (j + 1)) = n) := Lib.hid (by rw [HAS.out, HEQ.out]; simp)
                  have HN2 : Hid (badL X (C.take (j + 1)) = false) := Lib.hid (by rw [HBS.out, HEQ.out]; rfl)
                  have HN3 : Hid (decide (X ∈ C.take (j + 1)) = true) := Lib.hid (decide_eq_true (HIS.out.2 (.inr hSX)))
                  clear hSX HAS HBS HIS HBAD
                  rw [HEQ.out]
                  go_wp2
                  go_roundg (C.length - (j + 1))
                  case measure => have := HM2.out; omega
                  case rel => exact ⟨j + 1, by omega, by go_num, by rw [HN1.out], by rw [HN3.out], HN2.out, HZ3.out⟩
                · have HEQ := Lib.hid (decide_eq_false hSX)
                  have HN3 : Hid (decide (X ∈ C.take (j + 1)) = decide (X ∈ C.take j)) := Lib.hid (decide_eq_decide.2 (by rw [HIS.out]; exact ⟨fun q => q.resolve_right hSX, .inl⟩))
                  clear hSX HIS HBAD
                  rw [HEQ.out]
                  generalize decide (X ∈ C.take j) = sb at *
                  go_wp2_with fail
                  refine (subset_any _ _ S X _ HW3.out.reads HR3.out.reads).mono ?_
                  rintro e w4 ⟨rfl, rfl⟩
                  cases hs1 : subB S X with
                  | true =>
                    have HN1 : Hid (atL X (C.take (j + 1)) = n + 1) := Lib.hid (by rw [HAS.out, HEQ.out, hs1]; rfl)
                    have HN2 : Hid (badL X (C.take (j + 1)) = false) := Lib.hid (by rw [HBS.out, hs1]; simp)
                    clear hs1 HAS HBS
                    go_wp2
                    go_roundg (C.length - (j + 1))
                    case measure => have := HM2.out; omega
                    case rel => exact ⟨j + 1, by omega, by go_num, by rw [HN1.out]; go_num, by rw [HN3.out], HN2.out, HZ3.out⟩
                  | false =>
                    have HN1 : Hid (atL X (C.take (j + 1)) = n) := Lib.hid (by rw [HAS.out, hs1]; simp)
                    have HBS2 : Hid (badL X (C.take (j + 1)) = !subB X S) := Lib.hid (by rw [HBS.out, hs1, HEQ.out]; rfl)
                    clear hs1 HAS HBS
                    go_wp2_with fail
                    refine (subset_any _ _ X S _ HR3.out.reads HW3.out.reads).mono ?_
                    rintro e w4 ⟨rfl, rfl⟩
                    cases hs2 : subB X S with
                    | true =>
                      have HN2 : Hid (badL X (C.take (j + 1)) = false) := Lib.hid (by rw [HBS2.out, hs2]; rfl)
                      clear hs2 HBS2
                      go_wp2
                      go_roundg (C.length - (j + 1))
                      case measure => have := HM2.out; omega
                      case rel => exact ⟨j + 1, by omega, by go_num, by rw [HN1.out], by rw [HN3.out], HN2.out, HZ3.out⟩
                    | false =>
                      have HN2 : Hid (chainR h = none) := Lib.hid (HCN.out (by rw [HBS2.out, hs2]; rfl))
                      have HBE := Lib.hid (KW2.out.trans (HZ3.out.mono KW2.out.size))
                      clear hs2 HBS2
                      go_wp2
                      go_ret2
                      exact chain_no HN2.out HBE.out
              · have hjj : j = C.length := by omega
                subst hjj
                have HB0 : Hid (badL X C = false) := Lib.hid (by have h9 := HBAD.out; rwa [List.take_length] at h9)
                rw [List.take_length]
                clear HBAD
                by_cases hin : X ∈ C
                · have HEQ := Lib.hid (decide_eq_true hin)
                  have HNX : Hid (chainK h (k + 1) = some C) := Lib.hid (by rw [HOK.out HB0.out]; unfold insC; rw [if_pos hin])
                  clear hin
                  rw [HEQ.out]
                  go_wp2
                  go_roundg (h.length - (k + 1))
                  case measure => have := HM.out; omega
                  case rel => exact ⟨k + 1, C, by omega, by go_num, HNX.out, HOZ.out⟩
                · have HEQ := Lib.hid (decide_eq_false hin)
                  have HNX : Hid (chainK h (k + 1) = some (C.take (atL X C) ++ X :: C.drop (atL X C))) := Lib.hid (by rw [HOK.out HB0.out]; unfold insC; rw [if_neg hin])
                  have HAT := Lib.hid (atL_le X C)
                  clear hin
                  rw [HEQ.out]
                  generalize atL X C = n at *
                  have HA2 : Hid (Below wr.heap.size wr (wr.alloc (.cells #[.slice sa X.length sk] 33))) := Lib.hid ((Below.refl _ _).alloc (Nat.le_refl _) _)
                  have HI := Lib.hid (insert_sets n wr.heap.size (.slice oa C.length oc) (.slice sa X.length sk) C X W (wr.alloc (.cells #[.slice sa X.length sk] 33)) (HOZ.out.later HA2.out) HAT.out (by omega) (Blk.new _ _ _) HOZ.out.new (HRZ.out.kept (KeepS.of HA2.out)))
                  clear HA2 HOZ HRZ
                  go_wp2_with fail
                  refine HI.out.mono ?_
                  rintro e w4 ⟨v4, rfl, hown4, -⟩
                  have HO4 := Lib.hid hown4
                  clear hown4 HI
                  go_wp2
                  go_roundg (h.length - (k + 1))
                  case measure => have := HM.out; omega
                  case rel => exact ⟨k + 1, _, by omega, by go_num, HNX.out, HO4.out⟩
          · have HNR : Hid (¬ RdI h k) := Lib.hid fun q => he (HRD.out.1 q).2
            clear hk2 HRD HST
            go_wp2
            go_roundg (h.length - (k + 1))
            case measure => have := HM.out; omega
            case rel => exact ⟨k + 1, C, by omega, by go_num, chainK_skip HCK.out HNR.out, HO.out.later (HAL.out _)⟩
        · have e2 := bne_t hk2
          have HNR : Hid (¬ RdI h k) := Lib.hid fun q => hk2 (HRD.out.1 q).1
          clear hk2 HRD HST
          go_wp2
          go_roundg (h.length - (k + 1))
          case measure => have := HM.out; omega
          case rel => exact ⟨k + 1, C, by omega, by go_num, chainK_skip HCK.out HNR.out, HO.out.later (HAL.out _)⟩
      · have hkk : k = h.length := by omega
        subst hkk
        have HF : Hid (chainR h = some C) := Lib.hid (HCR.out.trans HCK.out)
        go_wp2
        go_ret2
        exact chain_yes HF.out HO.out
  · have HCR : Hid (chainR h = none) := Lib.hid (if_neg h0)
    have e0 := bne_t h0
    clear h0
    go_wp2
    go_ret2
    exact chain_no HCR.out KW1.out
end Go.Proofs.YtjijlhjggpibjaaGreat
