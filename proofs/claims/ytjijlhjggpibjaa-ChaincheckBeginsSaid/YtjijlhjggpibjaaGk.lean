/-
  Chapter 55: the beginning of a history.
-/
import Derived.Test.YtjijlhjggpibjaaHh
import Derived.Test.YtjijlhjggpibjaaGj
namespace Go.Proofs.Ytjijlhjggpibjaa
open Go.RowKit

theorem cutL_snoc {h : List Opn} {k : Nat} (hk : k < h.length) (t : Int) : cutL (h.take (k + 1)) t = cutL (h.take k) t ++ if t < begO h[k] then [] else [cutO t h[k]] := by
  unfold cutL
  rw [List.take_succ_eq_append_getElem hk, List.filter_append, List.map_append]
  congr 1
  by_cases hb : t < begO h[k] <;> simp [hb]
def OpsMade (W : World) (L : List Opn) (e : Ending) (w' : World) : Prop := ∃ v, e = .returned v ∧ ReadsO w' v L ∧ Below W.heap.size W w'
set_option maxRecDepth 100000 in
set_option maxHeartbeats 8000000 in
theorem begin_any (v : Value) (h : List Opn) (t : Int) (W : World) (hr : ReadsO W v h) (hn : h.length ≤ 1000) : Calls Try.prog 18 #[v, .int .i64 t] W (OpsMade W (cutL h t)) := by
  have HR := Lib.hid hr
  obtain ⟨ao, cap, rfl, hl, hm, -, -⟩ := hr
  unfold maxLen at hm
  go_enter Try.func18, Try.ntmps18
  go_wp2
  go_loopg [5, 6] h.length (fun m o i wr => ∃ k : Nat, m + k = h.length ∧ i = .int .i64 k ∧ OwnE (fun _ cs o => OpE W cs o) W wr o (cutL (h.take k) t))
  case atStart => exact ⟨0, by omega, rfl, OwnE.nil _ _⟩
  case round =>
    obtain ⟨k, hmk, rfl, hown⟩ := hrel
    have HM := Lib.hid hmk
    have HO := Lib.hid hown
    have KW := Lib.hid hown.1
    have hk : k ≤ h.length := by omega
    have hcl := cutL_len (h.take k) t
    have htl : (h.take k).length ≤ h.length := by rw [List.length_take]; omega
    clear hmk hown
    by_cases hlt : k < h.length
    · obtain ⟨b, off, cap1, a4, c4, a5, c5, hv, _, _, hm4, hm5, hl4, hl5, hcell, r1, r2⟩ := HR.out.at2 hlt
      injection hv with e1 e2 e3
      subst e1
      have hki : (k : Int) < h.length := by omega
      have hk0 : (0 : Int) ≤ (k : Int) := by omega
      have hsn := cutL_snoc hlt t
      have dd := Lib.hid (hcell wr KW.out)
      have x0 := dd.out.1
      have x1 := dd.out.2.1
      have x2 := dd.out.2.2.1
      have x3 := dd.out.2.2.2.1
      have x4 := dd.out.2.2.2.2.1
      have x5 := dd.out.2.2.2.2.2
      have HN := Lib.hid (And.intro r1 r2)
      clear e2 e3 hcell r1 r2 dd
      generalize h[k] = x at *
      generalize hL : cutL (h.take k) t = L at *
      by_cases hb : t < begO x
      · rw [if_pos hb, List.append_nil] at hsn
        have HSN := Lib.hid hsn
        have HO1 := Lib.hid (fun o => OwnE.later (stableW W W) HO.out ((Below.refl wr.heap.size wr).alloc (Nat.le_refl _) o))
        clear hsn hL
        go_wp2
        go_roundg (h.length - (k + 1))
        case measure => have := HM.out; omega
        case rel => exact ⟨k + 1, by omega, by go_num, by rw [HSN.out]; exact HO1.out _⟩
      · rw [if_neg hb] at hsn
        have HSN := Lib.hid hsn
        have HO4 := Lib.hid (fun o1 o2 => OwnE.later (stableW W W) HO.out (((Below.refl wr.heap.size wr).alloc (Nat.le_refl _) o1).alloc (by simp) o2))
        have HBK : Hid (∀ Y Z, Blk ((wr.alloc (.cells Y 36)).alloc (.cells Z 36)) (wr.heap.size + 1) 36 Z) := Lib.hid fun Y Z => by have h0 := Blk.new (wr.alloc (.cells Y 36)) 36 Z; rwa [World.size_alloc] at h0
        clear hsn hL
        by_cases he : t < endO x
        · have HCO : Hid (cutO t x = (cliO x, kindO x, begO x, -1, addO x, [])) := Lib.hid (by unfold cutO; rw [if_pos he])
          have HE : Hid (OpE W [.int .i64 (cliO x), .int .i64 (kindO x), .int .i64 (begO x), .int .i64 (-1), .slice a4 (addO x).length c4, .slice none 0 0] (cutO t x)) := Lib.hid (by rw [HCO.out]; exact ⟨_, _, rfl, HN.out.1, Reads.nil _⟩)
          go_wp2_with (at_builtin; refine append_op (stableW W W) rfl (.tmp 28) (.tmp 30) rfl _ L (cutO t x) [.int .i64 (cliO x), .int .i64 (kindO x), .int .i64 (begO x), .int .i64 (-1), .slice a4 (addO x).length c4, .slice none 0 0] (wr.heap.size + 1) rfl (HO4.out _ _) rfl (HBK.out _ _) HE.out (by omega) ?_)
          intro v6 w6 hown6
          have H6 := Lib.hid hown6
          clear hown6
          go_wp2
          go_roundg (h.length - (k + 1))
          case measure => have := HM.out; omega
          case rel => exact ⟨k + 1, by omega, by go_num, by rw [HSN.out]; exact H6.out⟩
        · have HCO : Hid (cutO t x = x) := Lib.hid (by unfold cutO; rw [if_neg he])
          have HE : Hid (OpE W [.int .i64 (cliO x), .int .i64 (kindO x), .int .i64 (begO x), .int .i64 (endO x), .slice a4 (addO x).length c4, .slice a5 (seeO x).length c5] (cutO t x)) := Lib.hid (by rw [HCO.out]; exact ⟨_, _, rfl, HN.out.1, HN.out.2⟩)
          go_wp2_with (at_builtin; refine append_op (stableW W W) rfl (.tmp 28) (.tmp 30) rfl _ L (cutO t x) [.int .i64 (cliO x), .int .i64 (kindO x), .int .i64 (begO x), .int .i64 (endO x), .slice a4 (addO x).length c4, .slice a5 (seeO x).length c5] (wr.heap.size + 1) rfl (HO4.out _ _) rfl (HBK.out _ _) HE.out (by omega) ?_)
          intro v6 w6 hown6
          have H6 := Lib.hid hown6
          clear hown6
          go_wp2
          go_roundg (h.length - (k + 1))
          case measure => have := HM.out; omega
          case rel => exact ⟨k + 1, by omega, by go_num, by rw [HSN.out]; exact H6.out⟩
    · have HF : Hid (ReadsO wr u5 (cutL h t)) := Lib.hid (by have h0 := HO.out; rw [List.take_of_length_le (show h.length ≤ k by omega)] at h0; exact h0.reads fun cs o hq => keepsOp _ _ _ _ KW.out hq)
      go_wp2
      go_ret
      exact ⟨_, rfl, HF.out, KW.out⟩
end Go.Proofs.Ytjijlhjggpibjaa
