/-
  Chapter 54: Cut.
-/
import Derived.Test.YtgaolgfjbgflgaaHh
namespace Go.Proofs.Ytgaolgfjbgflgaa
open Go.RowKit

def cutO (t : Int) (o : Opn) : Opn := if t < endO o then (cliO o, kindO o, begO o, -1, addO o, []) else o
def cutL (h : List Opn) (t : Int) : List Opn := (h.filter fun o => !decide (t < begO o)).map (cutO t)
theorem cutL_snoc {h : List Opn} {k : Nat} (hk : k < h.length) (t : Int) : cutL (h.take (k + 1)) t = cutL (h.take k) t ++ if t < begO h[k] then [] else [cutO t h[k]] := by
  unfold cutL
  rw [List.take_succ_eq_append_getElem hk, List.filter_append, List.map_append]
  congr 1
  by_cases hb : t < begO h[k] <;> simp [hb]
theorem cutL_len (h : List Opn) (t : Int) : (cutL h t).length ≤ h.length := by
  unfold cutL
  rw [List.length_map]
  exact List.length_filter_le _ _
def OpsMade (w : World) (L : List Opn) (e : Ending) (w' : World) : Prop := ∃ v, e = .returned v ∧ ReadsO w' v L ∧ Below w.heap.size w w'

set_option maxRecDepth 100000 in
set_option maxHeartbeats 8000000 in
theorem cut_any (v : Value) (h : List Opn) (t : Int) (W : World) (hr : ReadsO W v h) (hs : SmallH h) : Calls Try.prog 23 #[v, .int .i64 t] W (OpsMade W (cutL h t)) := by
  have HR := Lib.hid hr
  have HS := Lib.hid hs
  have hn := hs.1
  obtain ⟨ao, cap, rfl, hl, hm, -, -⟩ := hr
  unfold maxLen at hm
  clear hs
  go_enter Try.func23, Try.ntmps23
  go_wp2
  go_loopg [5, 11] h.length (fun m o i wr => ∃ k : Nat, m + k = h.length ∧ i = .int .i64 k ∧ OwnE OpR W wr o (cutL (h.take k) t))
  case atStart => exact ⟨0, by omega, rfl, OwnE.nil _ _⟩
  case round =>
    obtain ⟨k, hmk, rfl, hown⟩ := hrel
    have HM := Lib.hid hmk
    have HO := Lib.hid hown
    have KW := Lib.hid hown.1
    have hk : k ≤ h.length := by omega
    have hcl := cutL_len (h.take k) t
    have htl : (h.take k).length ≤ h.length := by rw [List.length_take]; omega
    clear hmk hown
    by_cases hlt : k < h.length
    · obtain ⟨b, off, cap1, a4, c4, a5, c5, hv, _, _, hm4, hm5, hl4, hl5, hcell, r1, r2⟩ := HR.out.at2 hlt
      injection hv with e1 e2 e3
      subst e1
      have hki : (k : Int) < h.length := by omega
      have hk0 : (0 : Int) ≤ (k : Int) := by omega
      have hsm := HS.out.2 _ (List.getElem_mem hlt)
      have hla := hsm.1
      have hls := hsm.2.1
      have hsn := cutL_snoc hlt t
      have dd := Lib.hid (hcell wr KW.out)
      have x0 := dd.out.1
      have x1 := dd.out.2.1
      have x2 := dd.out.2.2.1
      have x3 := dd.out.2.2.2.1
      have x4 := dd.out.2.2.2.2.1
      have x5 := dd.out.2.2.2.2.2
      have HN := Lib.hid (And.intro r1 r2)
      clear e2 e3 hcell r1 r2 hsm dd
      generalize h[k] = x at *
      generalize hL : cutL (h.take k) t = L at *
      by_cases hb : t < begO x
      · rw [if_pos hb, List.append_nil] at hsn
        have HSN := Lib.hid hsn
        have HNX := Lib.hid (fun o => OwnE.later (stableR W) HO.out ((Below.refl wr.heap.size wr).alloc (Nat.le_refl _) o))
        clear hsn hL
        go_wp2
        go_roundg (h.length - (k + 1))
        case measure => have := HM.out; omega
        case rel => exact ⟨k + 1, by omega, by go_num, by rw [HSN.out]; exact HNX.out _⟩
      · rw [if_neg hb] at hsn
        have HSN := Lib.hid hsn
        have HBX : Hid (Below wr.heap.size wr (wr.alloc (.cells #[.int .i64 (cliO x), .int .i64 (kindO x), .int .i64 (begO x), .int .i64 (endO x), .slice a4 (addO x).length c4, .slice a5 (seeO x).length c5] 37))) := Lib.hid ((Below.refl _ _).alloc (Nat.le_refl _) _)
        have HCL := Lib.hid (clone_any _ x _ ⟨_, _, rfl, HN.out.1.keep (KW.out.trans (HBX.out.mono KW.out.size)), HN.out.2.keep (KW.out.trans (HBX.out.mono KW.out.size))⟩ hla hls)
        clear hsn hL
        go_wp2_with fail
        refine HCL.out.mono ?_
        rintro e w4 ⟨v4, rfl, ⟨va, vz, rfl, q1, q2⟩, hb0⟩
        obtain ⟨d4, k4, rfl⟩ := row_slc q1
        obtain ⟨d5, k5, rfl⟩ := row_slc q2
        have hb4 : Below wr.heap.size wr w4 := HBX.out.trans (hb0.mono HBX.out.size)
        have HO4 := Lib.hid (fun o1 o2 => OwnE.later (stableR W) HO.out (hb4.trans ((((Below.refl w4.heap.size w4).alloc (Nat.le_refl _) o1).alloc (by simp) o2).mono hb4.size)))
        have HBK : Hid (∀ Y Z, Blk ((w4.alloc (.cells Y 37)).alloc (.cells Z 37)) (w4.heap.size + 1) 37 Z) := Lib.hid fun Y Z => by have h0 := Blk.new (w4.alloc (.cells Y 37)) 37 Z; rwa [World.size_alloc] at h0
        have HQ := Lib.hid (fun o1 o2 => And.intro ((q1.alloc o1).alloc o2) ((q2.alloc o1).alloc o2))
        clear q1 q2 hb0 hb4 HCL HBX x0 x1 x2 x3 x4 x5
        unfold opV
        by_cases he : t < endO x
        · have HCO : Hid (cutO t x = (cliO x, kindO x, begO x, -1, addO x, [])) := Lib.hid (by unfold cutO; rw [if_pos he])
          have HE : Hid (∀ o1 o2, OpR ((w4.alloc o1).alloc o2) [.int .i64 (cliO x), .int .i64 (kindO x), .int .i64 (begO x), .int .i64 (-1), .slice d4 (addO x).length k4, .slice none 0 0] (cutO t x)) := Lib.hid fun o1 o2 => by rw [HCO.out]; exact ⟨_, _, rfl, (HQ.out o1 o2).1, World.ownsRow_nil _ _ _ _⟩
          go_wp2_with (at_builtin; refine append_op (stableR W) rfl (.tmp 27) (.tmp 29) rfl _ L (cutO t x) [.int .i64 (cliO x), .int .i64 (kindO x), .int .i64 (begO x), .int .i64 (-1), .slice d4 (addO x).length k4, .slice none 0 0] (w4.heap.size + 1) rfl (HO4.out _ _) rfl (HBK.out _ _) (HE.out _ _) (by omega) ?_)
          intro v6 w6 hown6
          have H6 := Lib.hid hown6
          clear hown6
          go_wp2
          go_roundg (h.length - (k + 1))
          case measure => have := HM.out; omega
          case rel => exact ⟨k + 1, by omega, by go_num, by rw [HSN.out]; exact H6.out⟩
        · have HCO : Hid (cutO t x = x) := Lib.hid (by unfold cutO; rw [if_neg he])
          have HE : Hid (∀ o1 o2, OpR ((w4.alloc o1).alloc o2) [.int .i64 (cliO x), .int .i64 (kindO x), .int .i64 (begO x), .int .i64 (endO x), .slice d4 (addO x).length k4, .slice d5 (seeO x).length k5] (cutO t x)) := Lib.hid fun o1 o2 => by rw [HCO.out]; exact ⟨_, _, rfl, (HQ.out o1 o2).1, (HQ.out o1 o2).2⟩
          go_wp2_with (at_builtin; refine append_op (stableR W) rfl (.tmp 27) (.tmp 29) rfl _ L (cutO t x) [.int .i64 (cliO x), .int .i64 (kindO x), .int .i64 (begO x), .int .i64 (endO x), .slice d4 (addO x).length k4, .slice d5 (seeO x).length k5] (w4.heap.size + 1) rfl (HO4.out _ _) rfl (HBK.out _ _) (HE.out _ _) (by omega) ?_)
          intro v6 w6 hown6
          have H6 := Lib.hid hown6
          clear hown6
          go_wp2
          go_roundg (h.length - (k + 1))
          case measure => have := HM.out; omega
          case rel => exact ⟨k + 1, by omega, by go_num, by rw [HSN.out]; exact H6.out⟩
    · have HF : Hid (ReadsO wr u5 (cutL h t)) := Lib.hid (by have h0 := HO.out; rw [List.take_of_length_le (show h.length ≤ k by omega)] at h0; exact h0.reads fun _ _ => OpR.op)
      go_wp2
      go_ret
      exact ⟨_, rfl, HF.out, KW.out⟩
end Go.Proofs.Ytgaolgfjbgflgaa
