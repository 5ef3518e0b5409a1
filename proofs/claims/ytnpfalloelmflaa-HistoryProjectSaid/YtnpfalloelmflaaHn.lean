/-
  Chapter 54: Complete.
-/
import Derived.Test.YtnpfalloelmflaaHl
namespace Go.Proofs.Ytnpfalloelmflaa
open Go.RowKit

def seenL (h : List Opn) : List Str := h.flatMap seeO
/-- An operation in the completion, if it is there. -/
def compO (S : List Str) (last : Int) (o : Opn) : Option Opn := if endO o = -1 then (if anyIn (addO o) S = true then some (cliO o, kindO o, begO o, last, addO o, seeO o) else none) else some o
def compL (S : List Str) (last : Int) (h : List Opn) : List Opn := h.filterMap (compO S last)
def lateB (last : Int) (o : Opn) : Bool := decide (last ≤ begO o ∨ last ≤ endO o)
def compErr (h : List Opn) (last : Int) : Int := if (chkL h).2 = 0 then (if ∃ o ∈ h, lateB last o = true then 5 else 0) else 1
def CompMade (w : World) (h : List Opn) (last : Int) (e : Ending) (w' : World) : Prop :=
  ∃ v, e = .returned (.tuple #[v, .int .i64 (compErr h last)]) ∧ ReadsO w' v (if compErr h last = 0 then compL (seenL h) last h else []) ∧ (∀ k, v.ownBlock = some k → w.heap.size ≤ k) ∧ Below w.heap.size w w'
theorem comp_no {w w' : World} {h : List Opn} {last c : Int} (hc : compErr h last = c) (h0 : ¬ c = 0) (hb : Below w.heap.size w w') : CompMade w h last (.returned (.tuple #[.slice none 0 0, .int .i64 c])) w' :=
  ⟨.slice none 0 0, by rw [hc], by rw [if_neg (by rw [hc]; exact h0)]; exact ReadsK.nil w', fun _ h => by simp [Value.ownBlock] at h, hb⟩
theorem comp_yes {w w' : World} {v : Value} {h : List Opn} {last : Int} (hc : compErr h last = 0) (hr : ReadsO w' v (compL (seenL h) last h)) (hk : ∀ k, v.ownBlock = some k → w.heap.size ≤ k) (hb : Below w.heap.size w w') : CompMade w h last (.returned (.tuple #[v, .int .i64 0])) w' :=
  ⟨_, by rw [hc], by rw [if_pos hc]; exact hr, hk, hb⟩
theorem compL_snoc (S : List Str) (last : Int) {h : List Opn} {k : Nat} (hk : k < h.length) : compL S last (h.take (k + 1)) = compL S last (h.take k) ++ (compO S last h[k]).toList := by
  unfold compL
  rw [List.take_succ_eq_append_getElem hk, List.filterMap_append]
  cases hc : compO S last h[k] <;> simp [hc]
theorem compL_len (S : List Str) (last : Int) (h : List Opn) : (compL S last h).length ≤ h.length := List.length_filterMap_le _ _
theorem seenL_snoc {h : List Opn} {k : Nat} (hk : k < h.length) : seenL (h.take (k + 1)) = seenL (h.take k) ++ seeO h[k] := by
  unfold seenL
  rw [List.take_succ_eq_append_getElem hk, List.flatMap_append]; simp
theorem seenL_len {h : List Opn} (hs : SmallH h) : ∀ k, (seenL (h.take k)).length ≤ 1000 * k
  | 0 => by simp [seenL]
  | k + 1 => by
    by_cases hk : k < h.length
    · rw [seenL_snoc hk, List.length_append]
      have := seenL_len hs k
      have := (hs.2 _ (List.getElem_mem hk)).2.1
      omega
    · have := seenL_len hs k
      rw [List.take_of_length_le (by omega)] at this ⊢
      omega

set_option maxRecDepth 100000 in
set_option maxHeartbeats 8000000 in
theorem complete_any (v : Value) (h : List Opn) (last : Int) (W : World) (hr : ReadsO W v h) (hs : SmallH h) : Calls Try.prog 25 #[v, .int .i64 last] W (CompMade W h last) := by
  have HR := Lib.hid hr
  have HS := Lib.hid hs
  have hn := hs.1
  have HCH := Lib.hid (check_any v h W hr hs)
  obtain ⟨ao, cap, rfl, hl, hm, -, -⟩ := hr
  unfold maxLen at hm
  clear hs
  have HCE : Hid (compErr h last = if (chkL h).2 = 0 then (if ∃ o ∈ h, lateB last o = true then 5 else 0) else 1) := Lib.hid rfl
  by_cases hc0 : (chkL h).2 = 0
  · have HC1 : Hid (compErr h last = if ∃ o ∈ h, lateB last o = true then 5 else 0) := Lib.hid (by rw [HCE.out, if_pos hc0])
    have e0 := bne_f hc0
    clear HCE hc0
    go_enter Try.func25, Try.ntmps25
    go_wp2_with fail
    refine HCH.out.mono ?_
    rintro e w1 ⟨rfl, hb1⟩
    have KW := Lib.hid hb1
    clear hb1 HCH
    go_wp2_with (refine wpList_make_map rfl 49 rfl ?_)
    generalize hwm : World.alloc (World.alloc w1 _) _ = wm
    have HM0 : Hid (SeenAt wm (w1.heap.size + 1) w1.heap.size 0 [] ∧ Below W.heap.size W wm) := Lib.hid (by
      subst hwm
      refine ⟨⟨?_, ?_⟩, KW.out.trans ((below_two _ _ _).mono KW.out.size)⟩
      · have h1 := Blk.new (w1.alloc (.map #[] 0)) 49 #[.map (some w1.heap.size)]
        rwa [World.size_alloc] at h1
      · exact (SetB.made w1).on ((Below.refl _ _).alloc (Nat.le_refl _) _))
    have hgw := KW.out.size
    clear hwm e0
    go_loopg [27] h.length (fun m i wr => ∃ k : Nat, m + k = h.length ∧ i = .int .i64 k ∧ (∀ o ∈ h.take k, lateB last o = false) ∧ SeenAt wr (w1.heap.size + 1) w1.heap.size (seenL (h.take k)).length (seenL (h.take k)) ∧ Below W.heap.size W wr)
    case atStart => exact ⟨0, by omega, rfl, by simp, by simpa [seenL] using HM0.out.1, HM0.out.2⟩
    case round =>
      obtain ⟨k, hmk, rfl, hnl, hseen, hbel⟩ := hrel
      have HM := Lib.hid hmk
      have HNL := Lib.hid hnl
      have HSE := Lib.hid hseen
      replace KW := Lib.hid hbel
      have hk : k ≤ h.length := by omega
      have hsl0 := seenL_len HS.out k
      clear hmk hnl hseen hbel HM0
      by_cases hlt : k < h.length
      · obtain ⟨b, off, cap1, a4, c4, a5, c5, hv, _, _, hm4, hm5, hl4, hl5, hcell, r1, r2⟩ := HR.out.at2 hlt
        injection hv with e1 e2 e3
        subst e1
        have hki : (k : Int) < h.length := by omega
        have hk0 : (0 : Int) ≤ (k : Int) := by omega
        have hsm := HS.out.2 _ (List.getElem_mem hlt)
        have hls := hsm.2.1
        have HSM := Lib.hid hsm.2.2
        have hsn : lateB last h[k] = false → ∀ o ∈ h.take (k + 1), lateB last o = false := fun h1 o ho => by
          rw [List.take_succ_eq_append_getElem hlt] at ho
          rcases List.mem_append.1 ho with h2 | h2
          · exact HNL.out o h2
          · rw [List.mem_singleton.1 h2]; exact h1
        have HSN := Lib.hid hsn
        have HMEM := Lib.hid (List.getElem_mem hlt)
        have HTK := Lib.hid (seenL_snoc hlt)
        have hlb : lateB last h[k] = decide (last ≤ begO h[k] ∨ last ≤ endO h[k]) := rfl
        have dd := Lib.hid (hcell wr KW.out)
        have x0 := dd.out.1
        have x1 := dd.out.2.1
        have x2 := dd.out.2.2.1
        have x3 := dd.out.2.2.2.1
        have x4 := dd.out.2.2.2.2.1
        have x5 := dd.out.2.2.2.2.2
        have HN := Lib.hid (And.intro r1 r2)
        clear e2 e3 hcell r1 r2 hsm dd hsn
        generalize h[k] = x at *
        by_cases hlate : last ≤ max (begO x) (endO x)
        · have HER : Hid (compErr h last = 5) := Lib.hid (by rw [HC1.out, if_pos ⟨x, HMEM.out, by rw [hlb]; exact decide_eq_true (by omega)⟩])
          have HBX := Lib.hid (fun o => KW.out.alloc KW.out.size o)
          clear hlb
          go_wp2
          go_ret2
          exact comp_no HER.out (by decide) (HBX.out _)
        · have HLB : Hid (lateB last x = false) := Lib.hid (by rw [hlb]; exact decide_eq_false (by omega))
          clear hlb
          generalize seeO x = ls at *
          have c0 := HSE.out.1.cell 0
          go_wp2
          obtain ⟨G1, hG1⟩ : ∃ G, G = gk := ⟨_, rfl⟩
          subst hG1
          clear x0 x1 x2 x3 x4 x5
          have HST : Hid (SeenAt (wr.alloc (.cells #[.int .i64 (cliO x), .int .i64 (kindO x), .int .i64 (begO x), .int .i64 (endO x), .slice a4 (addO x).length c4, .slice a5 ls.length c5] 31)) (w1.heap.size + 1) w1.heap.size (seenL (h.take k)).length (seenL (h.take k)) ∧ Below W.heap.size W (wr.alloc (.cells #[.int .i64 (cliO x), .int .i64 (kindO x), .int .i64 (begO x), .int .i64 (endO x), .slice a4 (addO x).length c4, .slice a5 ls.length c5] 31))) := Lib.hid ⟨HSE.out.on ((Below.refl _ _).alloc (Nat.le_refl _) _), KW.out.alloc KW.out.size _⟩
          clear c0
          go_loopg [41] ls.length (fun m i wr => ∃ q : Nat, m + q = ls.length ∧ i = .int .i64 q ∧ SeenAt wr (w1.heap.size + 1) w1.heap.size (seenL (h.take k) ++ ls.take q).length (seenL (h.take k) ++ ls.take q) ∧ Below W.heap.size W wr)
          case atStart => exact ⟨0, by omega, rfl, by simpa using HST.out.1, HST.out.2⟩
          case round =>
            obtain ⟨q, hmq, rfl, hseen, hbel⟩ := hrel
            have HM3 := Lib.hid hmq
            replace HSE := Lib.hid hseen
            replace KW := Lib.hid hbel
            have hq : q ≤ ls.length := by omega
            clear hmq hseen hbel HST
            have c0 := HSE.out.1.cell 0
            by_cases hql : q < ls.length
            · obtain ⟨bs, os, cs, hv, hbs, hcs⟩ := str_at HN.out.2 hql
              injection hv with e1 e2 e3
              subst e1
              have hcs2 := (KW.out.cell (p := ⟨bs, os + q, none⟩) hbs).trans hcs
              have hqi : (q : Int) < ls.length := by omega
              have hq0 : (0 : Int) ≤ (q : Int) := by omega
              have hsl : ls[q].length ≤ maxLen := Nat.le_trans (HSM.out.2 _ (List.getElem_mem hql)) (by unfold maxLen; omega)
              have HTQ : Hid (seenL (h.take k) ++ ls.take (q + 1) = (seenL (h.take k) ++ ls.take q) ++ [ls[q]]) := Lib.hid (by rw [List.take_succ_eq_append_getElem hql, List.append_assoc])
              have hbig : (seenL (h.take k) ++ ls.take q).length < maxLen := by rw [List.length_append, List.length_take]; unfold maxLen; omega
              unfold vs at hcs2
              clear e2 e3 hcs
              generalize ls[q] = s at *
              generalize seenL (h.take k) ++ ls.take q = S2 at *
              go_wp2_with (refine wpList_store_set rfl (.tmp 45) (.tmp 46) _ rfl w1.heap.size _ S2 s rfl HSE.out.2 hbig rfl hsl rfl ?_)
              intro w8 hset8 hgr8
              have H8 : Hid (SeenAt w8 (w1.heap.size + 1) w1.heap.size (S2.length + 1) (S2 ++ [s]) ∧ Below W.heap.size W w8) := Lib.hid ⟨⟨(hgr8.block _ HSE.out.1.lt (by simp)).trans HSE.out.1, hset8⟩, below_mapg KW.out hgr8 hgw⟩
              clear hset8 hgr8
              go_wp2
              go_roundg (ls.length - (q + 1))
              case measure => have := HM3.out; omega
              case rel => exact ⟨q + 1, by omega, by go_num, by rw [HTQ.out, List.length_append]; exact H8.out.1, H8.out.2⟩
            · have hqq : q = ls.length := by omega
              subst hqq
              have HS3 : Hid (SeenAt wr (w1.heap.size + 1) w1.heap.size (seenL (h.take (k + 1))).length (seenL (h.take (k + 1)))) := Lib.hid (by have h0 := HSE.out; rw [List.take_length] at h0; rw [HTK.out]; exact h0)
              go_wp2
              go_roundg (h.length - (k + 1))
              case measure => have := HM.out; omega
              case rel => exact ⟨k + 1, by omega, by go_num, HSN.out HLB.out, HS3.out, KW.out⟩
      · have hkk : k = h.length := by omega
        have HER : Hid (compErr h last = 0) := Lib.hid (by
          rw [HC1.out, if_neg]
          rintro ⟨o, ho, h1⟩
          have h2 := HNL.out
          rw [List.take_of_length_le (by omega)] at h2
          rw [h2 o ho] at h1; cases h1)
        have HSE2 : Hid (SeenAt wr (w1.heap.size + 1) w1.heap.size (seenL h).length (seenL h)) := Lib.hid (by have h0 := HSE.out; rw [List.take_of_length_le (by omega)] at h0; exact h0)
        clear HNL HSE HC1 hsl0
        subst hkk
        generalize hSS : seenL h = S at *
        have HSS := Lib.hid hSS
        clear hSS
        go_wp2
        obtain ⟨wb, hwb⟩ : ∃ x, x = wr := ⟨_, rfl⟩
        rw [← hwb] at HSE2 KW ⊢
        clear hwb HM
        obtain ⟨G1, hG1⟩ : ∃ G, G = gk := ⟨_, rfl⟩
        subst hG1
        go_loopg [13, 51] h.length (fun m o i wr => ∃ k : Nat, m + k = h.length ∧ i = .int .i64 k ∧ OwnE OpR wb wr o (compL S last (h.take k)))
        case atStart => exact ⟨0, by omega, rfl, OwnE.nil _ _⟩
        case round =>
          obtain ⟨k, hmk, rfl, hown⟩ := hrel
          have HM := Lib.hid hmk
          have HO := Lib.hid hown
          replace HSE2 := Lib.hid (HSE2.out.on hown.1)
          have KW2 := Lib.hid (KW.out.trans (hown.1.mono KW.out.size))
          have hk : k ≤ h.length := by omega
          have hcl := compL_len S last (h.take k)
          have htl : (h.take k).length ≤ h.length := by rw [List.length_take]; omega
          clear hmk hown
          by_cases hlt : k < h.length
          · obtain ⟨b, off, cap1, a4, c4, a5, c5, hv, _, _, hm4, hm5, hl4, hl5, hcell, r1, r2⟩ := HR.out.at2 hlt
            injection hv with e1 e2 e3
            subst e1
            have hki : (k : Int) < h.length := by omega
            have hk0 : (0 : Int) ≤ (k : Int) := by omega
            have hsm := HS.out.2 _ (List.getElem_mem hlt)
            have hla := hsm.1
            have hls := hsm.2.1
            have HSM := Lib.hid hsm.2.2
            have hsn := compL_snoc S last hlt
            have dd := Lib.hid (hcell wr KW2.out)
            have x0 := dd.out.1
            have x1 := dd.out.2.1
            have x2 := dd.out.2.2.1
            have x3 := dd.out.2.2.2.1
            have x4 := dd.out.2.2.2.2.1
            have x5 := dd.out.2.2.2.2.2
            have HN := Lib.hid (And.intro r1 r2)
            clear e2 e3 hcell r1 r2 hsm dd
            generalize h[k] = x at *
            generalize hL : compL S last (h.take k) = L at *
            have HSN := Lib.hid hsn
            have HBX : Hid (Below wr.heap.size wr (wr.alloc (.cells #[.int .i64 (cliO x), .int .i64 (kindO x), .int .i64 (begO x), .int .i64 (endO x), .slice a4 (addO x).length c4, .slice a5 (seeO x).length c5] 31))) := Lib.hid ((Below.refl _ _).alloc (Nat.le_refl _) _)
            have HKX := Lib.hid (Blk.new wr 31 #[.int .i64 (cliO x), .int .i64 (kindO x), .int .i64 (begO x), .int .i64 (endO x), .slice a4 (addO x).length c4, .slice a5 (seeO x).length c5])
            have HCL := Lib.hid (clone_any _ x _ ⟨_, _, rfl, HN.out.1.keep (KW2.out.trans (HBX.out.mono KW2.out.size)), HN.out.2.keep (KW2.out.trans (HBX.out.mono KW2.out.size))⟩ hla hls)
            clear hsn hL
            go_wp2_with fail
            refine HCL.out.mono ?_
            rintro e w4 ⟨v4, rfl, ⟨va, vz, rfl, q1, q2⟩, hb0⟩
            obtain ⟨d4, k4, rfl⟩ := row_slc q1
            obtain ⟨d5, k5, rfl⟩ := row_slc q2
            have hb4 : Below wr.heap.size wr w4 := HBX.out.trans (hb0.mono HBX.out.size)
            have HO4 := Lib.hid (fun o1 o2 => OwnE.later (stableR wb) HO.out (hb4.trans ((((Below.refl w4.heap.size w4).alloc (Nat.le_refl _) o1).alloc (by simp) o2).mono hb4.size)))
            have HO5 := Lib.hid (fun o1 => OwnE.later (stableR wb) HO.out (hb4.trans (((Below.refl w4.heap.size w4).alloc (Nat.le_refl _) o1).mono hb4.size)))
            have HBK : Hid (∀ Y Z, Blk ((w4.alloc (.cells Y 31)).alloc (.cells Z 31)) (w4.heap.size + 1) 31 Z) := Lib.hid fun Y Z => by have h0 := Blk.new (w4.alloc (.cells Y 31)) 31 Z; rwa [World.size_alloc] at h0
            have HQ := Lib.hid (fun o1 o2 => And.intro ((q1.alloc o1).alloc o2) ((q2.alloc o1).alloc o2))
            have HKX4 := Lib.hid (HKX.out.on hb0)
            have hltx := HKX4.out.lt
            obtain ⟨c0, c1, c2, c3, c4', c5', hlt6⟩ := blk6 HKX4.out
            have HCF := Lib.hid (fun o1 => seen_contains (.slice a4 (addO x).length c4) (addO x) (w1.heap.size + 1) w1.heap.size S.length S (w4.alloc o1) ((HN.out.1.keep (KW2.out.trans (hb4.mono KW2.out.size))).keep ((Below.refl _ _).alloc (Nat.le_refl _) o1)) ((HSE2.out.on hb4).on ((Below.refl _ _).alloc (Nat.le_refl _) o1)) HSM.out.1)
            clear q1 q2 hb0 hb4 HCL HBX x0 x1 x2 x3 x4 x5
            unfold opV
            by_cases he : endO x = -1
            · have ee := beq_iff_eq.2 he
              by_cases ha : anyIn (addO x) S = true
              · have HCO : Hid (compO S last x = some (cliO x, kindO x, begO x, last, addO x, seeO x)) := Lib.hid (by unfold compO; rw [if_pos he, if_pos ha])
                have HA := Lib.hid ha
                have HE : Hid (∀ o1 o2, OpR ((w4.alloc o1).alloc o2) [.int .i64 (cliO x), .int .i64 (kindO x), .int .i64 (begO x), .int .i64 last, .slice d4 (addO x).length k4, .slice d5 (seeO x).length k5] (cliO x, kindO x, begO x, last, addO x, seeO x)) := Lib.hid fun o1 o2 => ⟨_, _, rfl, (HQ.out o1 o2).1, (HQ.out o1 o2).2⟩
                clear he ha
                go_wp2_with fail
                refine (HCF.out _).mono ?_
                rintro e w6 ⟨rfl, rfl⟩
                rw [HA.out]
                go_wp2_with (at_builtin; refine append_op (stableR wb) rfl (.tmp 67) (.tmp 69) rfl _ L (cliO x, kindO x, begO x, last, addO x, seeO x) [.int .i64 (cliO x), .int .i64 (kindO x), .int .i64 (begO x), .int .i64 last, .slice d4 (addO x).length k4, .slice d5 (seeO x).length k5] (w4.heap.size + 1) rfl (HO4.out _ _) rfl (HBK.out _ _) (HE.out _ _) (by omega) ?_)
                intro v6 w6 hown6
                have H6 := Lib.hid hown6
                clear hown6
                go_wp2
                go_roundg (h.length - (k + 1))
                case measure => have := HM.out; omega
                case rel => exact ⟨k + 1, by omega, by go_num, by rw [HSN.out, HCO.out]; exact H6.out⟩
              · have HCO : Hid (compO S last x = none) := Lib.hid (by unfold compO; rw [if_pos he, if_neg ha])
                have HA := Lib.hid (Bool.eq_false_iff.2 ha)
                clear he ha
                go_wp2_with fail
                refine (HCF.out _).mono ?_
                rintro e w6 ⟨rfl, rfl⟩
                rw [HA.out]
                go_wp2
                go_roundg (h.length - (k + 1))
                case measure => have := HM.out; omega
                case rel => exact ⟨k + 1, by omega, by go_num, by rw [HSN.out, HCO.out]; simpa using HO5.out _⟩
            · have ee := beq_eq_false_iff_ne.2 he
              have HCO : Hid (compO S last x = some x) := Lib.hid (by unfold compO; rw [if_neg he])
              have HE : Hid (∀ o1 o2, OpR ((w4.alloc o1).alloc o2) [.int .i64 (cliO x), .int .i64 (kindO x), .int .i64 (begO x), .int .i64 (endO x), .slice d4 (addO x).length k4, .slice d5 (seeO x).length k5] x) := Lib.hid fun o1 o2 => ⟨_, _, rfl, (HQ.out o1 o2).1, (HQ.out o1 o2).2⟩
              clear he
              go_wp2_with (at_builtin; refine append_op (stableR wb) rfl (.tmp 67) (.tmp 69) rfl _ L x [.int .i64 (cliO x), .int .i64 (kindO x), .int .i64 (begO x), .int .i64 (endO x), .slice d4 (addO x).length k4, .slice d5 (seeO x).length k5] (w4.heap.size + 1) rfl (HO4.out _ _) rfl (HBK.out _ _) (HE.out _ _) (by omega) ?_)
              intro v6 w6 hown6
              have H6 := Lib.hid hown6
              clear hown6
              go_wp2
              go_roundg (h.length - (k + 1))
              case measure => have := HM.out; omega
              case rel => exact ⟨k + 1, by omega, by go_num, by rw [HSN.out, HCO.out]; exact H6.out⟩
          · have HF : Hid (ReadsO wr u13 (compL (seenL h) last h)) := Lib.hid (by have h0 := HO.out; rw [List.take_of_length_le (show h.length ≤ k by omega)] at h0; rw [HSS.out]; exact h0.reads fun _ _ => OpR.op)
            go_wp2
            go_ret2
            exact comp_yes HER.out HF.out (fun k hk => by obtain ⟨_, cells, hrow, _⟩ := HO.out; exact Nat.le_trans KW.out.size (hrow.lt k hk).1) KW2.out
  · have HER : Hid (compErr h last = 1) := Lib.hid (by rw [HCE.out, if_neg hc0])
    have e0 := bne_t hc0
    clear HCE hc0
    go_enter Try.func25, Try.ntmps25
    go_wp2_with fail
    refine HCH.out.mono ?_
    rintro e w1 ⟨rfl, hb1⟩
    have KW := Lib.hid hb1
    clear hb1 HCH
    go_wp2
    go_ret2
    exact comp_no HER.out (by decide) KW.out
end Go.Proofs.Ytnpfalloelmflaa
