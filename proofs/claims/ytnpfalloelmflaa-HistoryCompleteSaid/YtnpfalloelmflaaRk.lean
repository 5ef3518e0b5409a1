/-
  Chapter 54: the reference's Complete.
-/
import Derived.Test.YtnpfalloelmflaaRa
import Derived.Test.YtnpfalloelmflaaAp
import Derived.Test.YtnpfalloelmflaaHn
namespace Go.Proofs.Ytnpfalloelmflaa
open Go.RowKit

def RCompMade (w : World) (h : List Opn) (last : Int) (e : Ending) (w' : World) : Prop :=
  ∃ v, e = .returned (.tuple #[v, .int .i64 (compErr h last)]) ∧ ReadsO w' v (if compErr h last = 0 then compL (seenL h) last h else []) ∧ Below w.heap.size w w'
theorem rcomp_no {w w' : World} {h : List Opn} {last c : Int} (hc : compErr h last = c) (h0 : ¬ c = 0) (hb : Below w.heap.size w w') : RCompMade w h last (.returned (.tuple #[.slice none 0 0, .int .i64 c])) w' :=
  ⟨.slice none 0 0, by rw [hc], by rw [if_neg (by rw [hc]; exact h0)]; exact ReadsK.nil w', hb⟩
theorem rcomp_yes {w w' : World} {v : Value} {h : List Opn} {last : Int} (hc : compErr h last = 0) (hr : ReadsO w' v (compL (seenL h) last h)) (hb : Below w.heap.size w w') : RCompMade w h last (.returned (.tuple #[v, .int .i64 0])) w' :=
  ⟨_, by rw [hc], by rw [if_pos hc]; exact hr, hb⟩
theorem any_inter (xs S : List Str) : anyIn xs S = decide (interL xs S ≠ []) := by
  unfold anyIn; rw [decide_eq_decide]; exact (inter_ne xs S).symm

set_option maxRecDepth 100000 in
set_option maxHeartbeats 16000000 in
theorem rcomplete_any (v : Value) (h : List Opn) (last : Int) (W : World) (hr : ReadsO W v h) (hs : SmallH h) : Calls Try.prog 26 #[v, .int .i64 last] W (RCompMade W h last) := by
  have HR := Lib.hid hr
  have HS := Lib.hid hs
  have hn := hs.1
  have HWL := Lib.hid (rwell_any v h W hr hs)
  have HCE : Hid (compErr h last = if (chkL h).2 = 0 then (if ∃ o ∈ h, lateB last o = true then 5 else 0) else 1) := Lib.hid rfl
  obtain ⟨ao, cap, rfl, hl, hm, -, -⟩ := hr
  unfold maxLen at hm
  clear hs
  by_cases hw : wellB h = true
  · have HC1 : Hid (compErr h last = if ∃ o ∈ h, lateB last o = true then 5 else 0) := Lib.hid (by rw [HCE.out, if_pos (of_decide_eq_true hw)])
    rw [hw] at HWL
    clear hw HCE
    go_enter Try.func26, Try.ntmps26
    go_wp2_with fail
    refine HWL.out.mono ?_
    rintro e w1 ⟨rfl, hb1⟩
    have KW1 := Lib.hid hb1
    clear hb1 HWL
    go_wp2
    go_loopg [6, 7] h.length (fun m s i wr => ∃ k : Nat, m + k = h.length ∧ i = .int .i64 k ∧ (∀ o ∈ h.take k, lateB last o = false) ∧ wr.ownsRow W.heap.size 9 1 s (seenL (h.take k)).length ((seenL (h.take k)).map vs) ∧ Below W.heap.size W wr)
    case atStart => exact ⟨0, by omega, rfl, by simp, World.ownsRow_made w1 #[] 0 KW1.out.size (Nat.zero_le _) rfl, KW1.out.alloc KW1.out.size _⟩
    case round =>
      clear KW1
      obtain ⟨k, hmk, rfl, hnl, hown, hbel⟩ := hrel
      have HM := Lib.hid hmk
      have HNL := Lib.hid hnl
      have HOW := Lib.hid hown
      have KW := Lib.hid hbel
      have hk : k ≤ h.length := by omega
      have hsl0 := seenL_len HS.out k
      clear hmk hnl hown hbel
      by_cases hlt : k < h.length
      · obtain ⟨b, off, cap1, a4, c4, a5, c5, hv, _, _, hm4, hm5, hl4, hl5, hcell, r1, r2⟩ := HR.out.at2 hlt
        injection hv with e1 e2 e3
        subst e1
        have hki : (k : Int) < h.length := by omega
        have hk0 : (0 : Int) ≤ (k : Int) := by omega
        have hls := (HS.out.2 _ (List.getElem_mem hlt)).2.1
        have hsn : lateB last h[k] = false → ∀ o ∈ h.take (k + 1), lateB last o = false := fun h1 o ho => by
          rw [List.take_succ_eq_append_getElem hlt] at ho
          rcases List.mem_append.1 ho with h2 | h2
          · exact HNL.out o h2
          · rw [List.mem_singleton.1 h2]; exact h1
        have HSN := Lib.hid hsn
        have HMEM := Lib.hid (List.getElem_mem hlt)
        have HTK := Lib.hid (seenL_snoc hlt)
        have hlb : lateB last h[k] = decide (last ≤ begO h[k] ∨ last ≤ endO h[k]) := rfl
        have dd := Lib.hid (hcell wr KW.out)
        have x2 := dd.out.2.2.1
        have x3 := dd.out.2.2.2.1
        have x5 := dd.out.2.2.2.2.2
        have HN := Lib.hid (And.intro r1 r2)
        clear e2 e3 hcell r1 r2 dd hsn
        generalize h[k] = x at *
        by_cases hlate : last ≤ begO x ∨ last ≤ endO x
        · have HER : Hid (compErr h last = 5) := Lib.hid (by rw [HC1.out, if_pos ⟨x, HMEM.out, by rw [hlb]; exact decide_eq_true hlate⟩])
          clear hlb
          by_cases h1 : last ≤ begO x
          · go_wp2
            go_ret2
            exact rcomp_no HER.out (by decide) KW.out
          · have h2 : last ≤ endO x := by omega
            go_wp2
            go_ret2
            exact rcomp_no HER.out (by decide) KW.out
        · have HLB : Hid (lateB last x = false) := Lib.hid (by rw [hlb]; exact decide_eq_false hlate)
          have h1 : ¬ last ≤ begO x := by omega
          have h2 : ¬ last ≤ endO x := by omega
          clear hlb hlate
          generalize hSS : seenL (h.take k) = S at *
          have HSS := Lib.hid hSS
          clear hSS
          go_wp2_with (at_builtin; refine append_reads rfl (.tmp 37) (.tmp 42) rfl W.heap.size _ (.slice a5 (seeO x).length c5) S.length S (seeO x) rfl HOW.out rfl (HN.out.2.keep KW.out) (by omega) KW.out.size ?_)
          intro v3 w3 hown3 hgr3
          have HX : Hid (w3.ownsRow W.heap.size 9 1 v3 (seenL (h.take (k + 1))).length ((seenL (h.take (k + 1))).map vs) ∧ Below W.heap.size W w3) := Lib.hid ⟨by rw [HTK.out, List.length_append, List.map_append]; exact hown3, below_row_grown KW.out (Below.refl _ _) HOW.out hgr3⟩
          clear hown3 hgr3
          go_wp2
          go_roundg (h.length - (k + 1))
          case measure => have := HM.out; omega
          case rel => exact ⟨k + 1, by omega, by go_num, HSN.out HLB.out, HX.out.1, HX.out.2⟩
      · have hkk : k = h.length := by omega
        have HER : Hid (compErr h last = 0) := Lib.hid (by
          rw [HC1.out, if_neg]
          rintro ⟨o, ho, h1⟩
          have h2 := HNL.out
          rw [List.take_of_length_le (by omega)] at h2
          rw [h2 o ho] at h1; cases h1)
        have HSE : Hid (Reads vs wr u6 (seenL h)) := Lib.hid (by have h0 := HOW.out; rw [List.take_of_length_le (by omega)] at h0; exact Reads.of_owns h0)
        clear HNL HC1 hsl0 HOW
        subst hkk
        generalize hSS : seenL h = S at *
        have HSS := Lib.hid hSS
        clear hSS
        go_wp2
        obtain ⟨wb, hwb⟩ : ∃ x, x = wr := ⟨_, rfl⟩
        rw [← hwb] at HSE KW ⊢
        clear hwb HM
        obtain ⟨G1, hG1⟩ : ∃ G, G = gk := ⟨_, rfl⟩
        subst hG1
        go_loopg [8, 9] h.length (fun m o i wr => ∃ k : Nat, m + k = h.length ∧ i = .int .i64 k ∧ OwnE (fun _ cs o => OpE W cs o) wb wr o (compL S last (h.take k)))
        case atStart => exact ⟨0, by omega, rfl, (Below.refl _ _).alloc (Nat.le_refl _) _, [], World.ownsRow_made wb #[] 0 (Nat.le_refl _) (Nat.zero_le _) rfl, fun k h => by simp [compL] at h⟩
        case round =>
          obtain ⟨k, hmk, rfl, hown⟩ := hrel
          have HM := Lib.hid hmk
          have HO := Lib.hid hown
          have KB := Lib.hid hown.1
          have KW2 := Lib.hid (KW.out.trans (hown.1.mono KW.out.size))
          have hk : k ≤ h.length := by omega
          have hcl := compL_len S last (h.take k)
          have htl : (h.take k).length ≤ h.length := by rw [List.length_take]; omega
          clear hmk hown
          by_cases hlt : k < h.length
          · obtain ⟨b, off, cap1, a4, c4, a5, c5, hv, _, _, hm4, hm5, hl4, hl5, hcell, r1, r2⟩ := HR.out.at2 hlt
            injection hv with e1 e2 e3
            subst e1
            have hki : (k : Int) < h.length := by omega
            have hk0 : (0 : Int) ≤ (k : Int) := by omega
            have hla := (HS.out.2 _ (List.getElem_mem hlt)).1
            have hsn := compL_snoc S last hlt
            have dd := Lib.hid (hcell wr KW2.out)
            have x0 := dd.out.1
            have x1 := dd.out.2.1
            have x2 := dd.out.2.2.1
            have x3 := dd.out.2.2.2.1
            have x4 := dd.out.2.2.2.2.1
            have x5 := dd.out.2.2.2.2.2
            have HN := Lib.hid (And.intro r1 r2)
            clear e2 e3 hcell r1 r2 dd
            generalize h[k] = x at *
            generalize hL : compL S last (h.take k) = L at *
            have HSN := Lib.hid hsn
            clear hsn hL
            by_cases he : endO x = -1
            · have ee := beq_iff_eq.2 he
              have HCO : Hid (compO S last x = if anyIn (addO x) S = true then some (cliO x, kindO x, begO x, last, addO x, seeO x) else none) := Lib.hid (by unfold compO; rw [if_pos he])
              have HBX : Hid (Below wr.heap.size wr (wr.alloc (.cells #[.int .i64 (cliO x), .int .i64 (kindO x), .int .i64 (begO x), .int .i64 (endO x), .slice a4 (addO x).length c4, .slice a5 (seeO x).length c5] 31))) := Lib.hid ((Below.refl _ _).alloc (Nat.le_refl _) _)
              have HKX := Lib.hid (Blk.new wr 31 #[.int .i64 (cliO x), .int .i64 (kindO x), .int .i64 (begO x), .int .i64 (endO x), .slice a4 (addO x).length c4, .slice a5 (seeO x).length c5])
              have HIN := Lib.hid (inter_any (.slice a4 (addO x).length c4) u6 (addO x) S _ ((HN.out.1.keep KW2.out).keep HBX.out) ((HSE.out.keep KB.out).keep HBX.out) (by omega))
              have HAN := Lib.hid (any_inter (addO x) S)
              clear he
              go_wp2_with fail
              refine HIN.out.mono ?_
              rintro e w4 ⟨v4, rfl, hr4, hb0⟩
              obtain ⟨av, cv, rfl, -, hcv, -, -⟩ := hr4
              have hb4 : Below wr.heap.size wr w4 := HBX.out.trans (hb0.mono HBX.out.size)
              have H4 := Lib.hid hb4
              have HKX4 := Lib.hid (HKX.out.on hb0)
              obtain ⟨c0, c1, c2, c3, c4', c5', hlt6⟩ := blk6 HKX4.out
              have f3 := HKX4.out.frozen 3
              clear HIN HBX HKX hb0 hb4 x0 x1 x2 x3 x4 x5 hcv
              by_cases hi : interL (addO x) S = []
              · have HNO : Hid (compO S last x = none) := Lib.hid (by rw [HCO.out, HAN.out, hi]; rfl)
                rw [hi]
                have HNX := Lib.hid (OwnE.later (stableW wb W) HO.out H4.out)
                clear hi HAN HCO
                go_wp2
                go_roundg (h.length - (k + 1))
                case measure => have := HM.out; omega
                case rel => exact ⟨k + 1, by omega, by go_num, by rw [HSN.out, HNO.out]; simpa using HNX.out⟩
              · have HYES : Hid (compO S last x = some (cliO x, kindO x, begO x, last, addO x, seeO x)) := Lib.hid (by rw [HCO.out, HAN.out, if_pos (decide_eq_true hi)])
                have h0l : 0 < (interL (addO x) S).length := List.length_pos_iff.2 hi
                generalize (interL (addO x) S).length = nI at *
                have e0 := beq_f (show ¬ (nI : Int) = 0 by omega)
                have HE : Hid (OpE W [.int .i64 (cliO x), .int .i64 (kindO x), .int .i64 (begO x), .int .i64 last, .slice a4 (addO x).length c4, .slice a5 (seeO x).length c5] (cliO x, kindO x, begO x, last, addO x, seeO x)) := Lib.hid ⟨_, _, rfl, HN.out.1, HN.out.2⟩
                have HO4 := Lib.hid (fun o1 => OwnE.later (stableW wb W) HO.out ((H4.out.setCell (p := ⟨wr.heap.size, 3, none⟩) (Nat.le_refl _) (.int .i64 last)).alloc (by simpa [World.setCell] using H4.out.size) o1))
                have HBK : Hid (∀ Z, Blk ((w4.setCell ⟨wr.heap.size, 3, none⟩ (.int .i64 last)).alloc (.cells Z 31)) w4.heap.size 31 Z) := Lib.hid fun Z => by have h0 := Blk.new (w4.setCell ⟨wr.heap.size, 3, none⟩ (.int .i64 last)) 31 Z; rwa [World.size_setCell] at h0
                clear hi HAN HCO
                go_wp2_with (at_builtin; refine append_op (stableW wb W) rfl (.tmp 66) (.tmp 68) rfl _ L (cliO x, kindO x, begO x, last, addO x, seeO x) [.int .i64 (cliO x), .int .i64 (kindO x), .int .i64 (begO x), .int .i64 last, .slice a4 (addO x).length c4, .slice a5 (seeO x).length c5] w4.heap.size rfl (HO4.out _) rfl (HBK.out _) HE.out (by omega) ?_)
                intro v6 w6 hown6
                have H6 := Lib.hid hown6
                clear hown6
                go_wp2
                go_roundg (h.length - (k + 1))
                case measure => have := HM.out; omega
                case rel => exact ⟨k + 1, by omega, by go_num, by rw [HSN.out, HYES.out]; exact H6.out⟩
            · have ee := beq_eq_false_iff_ne.2 he
              have HCO : Hid (compO S last x = some x) := Lib.hid (by unfold compO; rw [if_neg he])
              have HO4 := Lib.hid (fun o1 o2 => OwnE.later (stableW wb W) HO.out (((Below.refl wr.heap.size wr).alloc (Nat.le_refl _) o1).alloc (by simp) o2))
              have HBK : Hid (∀ Y Z, Blk ((wr.alloc (.cells Y 31)).alloc (.cells Z 31)) (wr.heap.size + 1) 31 Z) := Lib.hid fun Y Z => by have h0 := Blk.new (wr.alloc (.cells Y 31)) 31 Z; rwa [World.size_alloc] at h0
              have HE : Hid (OpE W [.int .i64 (cliO x), .int .i64 (kindO x), .int .i64 (begO x), .int .i64 (endO x), .slice a4 (addO x).length c4, .slice a5 (seeO x).length c5] x) := Lib.hid ⟨_, _, rfl, HN.out.1, HN.out.2⟩
              clear he
              go_wp2_with (at_builtin; refine append_op (stableW wb W) rfl (.tmp 66) (.tmp 68) rfl _ L x [.int .i64 (cliO x), .int .i64 (kindO x), .int .i64 (begO x), .int .i64 (endO x), .slice a4 (addO x).length c4, .slice a5 (seeO x).length c5] (wr.heap.size + 1) rfl (HO4.out _ _) rfl (HBK.out _ _) HE.out (by omega) ?_)
              intro v6 w6 hown6
              have H6 := Lib.hid hown6
              clear hown6
              go_wp2
              go_roundg (h.length - (k + 1))
              case measure => have := HM.out; omega
              case rel => exact ⟨k + 1, by omega, by go_num, by rw [HSN.out, HCO.out]; exact H6.out⟩
          · have HF : Hid (ReadsO wr u8 (compL (seenL h) last h)) := Lib.hid (by have h0 := HO.out; rw [List.take_of_length_le (show h.length ≤ k by omega)] at h0; rw [HSS.out]; exact h0.reads fun cs o hq => keepsOp _ _ _ _ KW2.out hq)
            go_wp2
            go_ret2
            exact rcomp_yes HER.out HF.out KW2.out
  · have HER : Hid (compErr h last = 1) := Lib.hid (by rw [HCE.out, if_neg (fun e => hw (decide_eq_true e))])
    rw [Bool.eq_false_iff.2 hw] at HWL
    clear HCE hw
    go_enter Try.func26, Try.ntmps26
    go_wp2_with fail
    refine HWL.out.mono ?_
    rintro e w1 ⟨rfl, hb1⟩
    have KW := Lib.hid hb1
    clear hb1 HWL
    go_wp2
    go_ret2
    exact rcomp_no HER.out (by decide) KW.out
end Go.Proofs.Ytnpfalloelmflaa
