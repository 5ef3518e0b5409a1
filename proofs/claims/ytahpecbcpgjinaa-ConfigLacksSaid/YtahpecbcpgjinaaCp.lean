/-
  Chapter 39: Tolerates, Lacking.
-/
import Derived.Test.YtahpecbcpgjinaaCo
namespace Go.Proofs.Ytahpecbcpgjinaa
open Go.RowKit

def others (R : Int) (faulty : List Int) : List Int := upTo (fun r => !decide (r ∈ faulty)) (max 0 (min R 12)).toNat

set_option maxRecDepth 100000 in
set_option maxHeartbeats 2000000 in
theorem tolerates_any (g vB vC z : Value) (M R : Int) (F : List Int) (B C : List Cmd) (x : List Int) (w : World) (hg : Gen w g M R F) (hb : ReadsC w vB B) (hc : ReadsC w vC C) (hz : Reads vi w z x) :
    Calls Try.prog 26 #[g, vB, vC, z] w (BoolMade w (quorateB M R F B C (others R x))) := by
  obtain ⟨i0, hinf, hz0, hz1, hz2⟩ := info_parts Try.infoInt
  have HI := Lib.hid (And.intro hinf (And.intro hz0 (And.intro hz1 hz2)))
  clear hinf hz0 hz1 hz2
  have HG := Lib.hid (And.intro hg (And.intro hb (And.intro hc hz)))
  obtain ⟨vF, cl, vA, vO, rfl, hF, ⟨a2, n2, k2, rfl⟩, ⟨a3, n3, k3, rfl⟩⟩ := hg
  obtain ⟨a1, n1, k1, rfl⟩ := Slc.of_reads hF
  clear hF hb hc hz
  unfold gen at *
  obtain ⟨n, hn⟩ : ∃ n : Nat, max 0 (min R 12) = n := ⟨(max 0 (min R 12)).toNat, by omega⟩
  have hn12 : n ≤ 12 := by omega
  have HO : Hid (others R x = upTo (fun r => !decide (r ∈ x)) n) := Lib.hid (by unfold others; rw [hn, Int.toNat_natCast])
  have G0 : Hid (Blk (w.alloc (.cells #[.int .i64 M, .int .i64 R, .slice a1 n1 k1, .int .i64 cl, .slice a2 n2 k2, .slice a3 n3 k3] 25)) w.heap.size 25 #[.int .i64 M, .int .i64 R, .slice a1 n1 k1, .int .i64 cl, .slice a2 n2 k2, .slice a3 n3 k3] ∧ Below w.heap.size w (w.alloc (.cells #[.int .i64 M, .int .i64 R, .slice a1 n1 k1, .int .i64 cl, .slice a2 n2 k2, .slice a3 n3 k3] 25))) := Lib.hid ⟨Blk.new _ _ _, (Below.refl _ _).alloc (Nat.le_refl _) _⟩
  go_enter Try.func26, Try.ntmps26
  go_wp2
  clear hn
  obtain ⟨wa, hwa⟩ : ∃ wa, wa = w.alloc (.cells #[.int .i64 M, .int .i64 R, .slice a1 n1 k1, .int .i64 cl, .slice a2 n2 k2, .slice a3 n3 k3] 25) := ⟨_, rfl⟩
  rw [← hwa] at G0 ⊢
  clear hwa
  go_loopg [9, 15] n (fun m o i wr => ∃ k : Nat, m + k = n ∧ i = .int .i64 k ∧ wr.ownsRow wa.heap.size 3 1 o (upTo (fun r => !decide (r ∈ x)) k).length ((upTo (fun r => !decide (r ∈ x)) k).map vi) ∧ Below wa.heap.size wa wr)
  case atStart => exact ⟨0, by omega, rfl, by simp [upTo, World.ownsRow], Below.refl _ _⟩
  case round =>
    obtain ⟨k, hmk, rfl, hown, hbel⟩ := hrel
    have HM := Lib.hid hmk
    have hk : k ≤ n := by omega
    have GR := Lib.hid (And.intro (G0.out.1.on hbel) (G0.out.2.trans (hbel.mono G0.out.2.size)))
    have HOO := Lib.hid (And.intro hown hbel)
    have hol := upTo_len (fun r => !decide (r ∈ x)) k
    clear hmk hown hbel
    by_cases hlt : k < n
    · have hco := contains_any z x k wr (HG.out.2.2.2.keep GR.out.2)
      have hy := @upTo_yes (fun r => !decide (r ∈ x)) k
      have hn := @upTo_no (fun r => !decide (r ∈ x)) k
      generalize hd : decide ((k : Int) ∈ x) = d at *
      have HC := Lib.hid hco
      have HY := Lib.hid (And.intro hy hn)
      clear hco hy hn hd
      cases d
      · have HE := Lib.hid (HY.out.1 rfl)
        clear HY
        generalize upTo (fun r => !decide (r ∈ x)) k = out at *
        go_wp2_with (first | (refine HC.out.mono ?_; rintro e w4 ⟨rfl, rfl⟩) | (at_builtin; refine wpList_append_own _ rfl _ _ 22 rfl wa.heap.size 3 i0 (.int .i64 0) 1 8 Try.underlying22 HI.out.1 HI.out.2.1 HI.out.2.2.1 HI.out.2.2.2 rfl (by decide) _ _ _ rfl (by exact HOO.out.1.alloc _) ⟨_, 0, none⟩ 1 1 [.int .i64 k] rfl rfl (cell_one_new _ _ _) (by intro u hu; simp at hu; subst hu; rfl) (by unfold maxLen; omega) (by omega) (by have := HOO.out.2.size; simp; omega) ?_; intro v5 w5 hown5 hgr5 _))
        have H5 := Lib.hid (append_one (x := (k : Int)) HOO.out.1 HOO.out.2 (by exact hgr5) hown5)
        clear hown5 hgr5
        go_wp2
        go_roundg (n - (k + 1))
        case measure => have := HM.out; omega
        case rel => exact ⟨k + 1, by omega, by go_num, by rw [HE.out]; exact H5.out.1, H5.out.2⟩
      · have HE := Lib.hid (HY.out.2 rfl)
        clear HY
        go_wp2_with (refine HC.out.mono ?_; rintro e w4 ⟨rfl, rfl⟩)
        go_roundg (n - (k + 1))
        case measure => have := HM.out; omega
        case rel => exact ⟨k + 1, by omega, by go_num, by rw [HE.out]; exact HOO.out.1, HOO.out.2⟩
    · have HV : Hid (upTo (fun r => !decide (r ∈ x)) k = others R x) := Lib.hid (by rw [HO.out]; congr 1; omega)
      have hs5 : w.heap.size < wr.heap.size := GR.out.1.lt
      have c0 := GR.out.1.cell 0
      have c1 := GR.out.1.cell 1
      have c2 := GR.out.1.cell 2
      have c3 := GR.out.1.cell 3
      have c4 := GR.out.1.cell 4
      have c5 := GR.out.1.cell 5
      have hq := quorate_any _ vB vC u9 M R F B C (upTo (fun r => !decide (r ∈ x)) k) wr (HG.out.1.on GR.out.2) (HG.out.2.1.on GR.out.2) (HG.out.2.2.1.on GR.out.2) (Reads.of_owns HOO.out.1)
      rw [HV.out] at hq
      have HQ := Lib.hid hq
      clear hq
      go_wp2_with fail
      refine HQ.out.mono ?_
      rintro e w4 ⟨rfl, hb4⟩
      have H4 := Lib.hid (GR.out.2.trans (hb4.mono GR.out.2.size))
      clear hb4
      generalize quorateB M R F B C (others R x) = res at *
      go_wp2
      go_ret
      exact ⟨rfl, H4.out⟩
end Go.Proofs.Ytahpecbcpgjinaa
