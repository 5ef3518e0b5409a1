/-
  Chapter 39: same of the reference.
-/
import Derived.Test.YtahpecbcpgjinaaCk
namespace Go.Proofs.Ytahpecbcpgjinaa
open Go.RowKit

theorem conv_drewN {w : World} {v : Value} {l : Str} (h : Reads vb w v l) (q : Nat) : (convert 50 9 v).run Try.prog (w.drewN q) = .ok (.string (toB l)) (w.drewN q) := conv_bytes (h.keep (below_drewN q))
/-- The two commands lie in their blocks. -/
def TwoCmd (w : World) (g h : Nat) (cs ds : Array Value) (x y : Value) (a b : List (Str × Str)) : Prop :=
  Blk w g 52 cs ∧ Blk w h 52 ds ∧ ReadsW w x a ∧ ReadsW w y b
theorem TwoCmd.on {w w' : World} {g h : Nat} {cs ds : Array Value} {x y : Value} {a b : List (Str × Str)} (H : TwoCmd w g h cs ds x y a b) (hb : Below w.heap.size w w') : TwoCmd w' g h cs ds x y a b :=
  ⟨H.1.on hb, H.2.1.on hb, H.2.2.1.on hb, H.2.2.2.on hb⟩

set_option maxRecDepth 100000 in
set_option maxHeartbeats 4000000 in
theorem rsame_any (v u : Value) (c d : Cmd) (w : World) (hc : CmdAt w v c) (hd : CmdAt w u d) :
    Calls Try.prog 68 #[v, u] w (BoolMade w (decide (c = d))) := by
  obtain ⟨vw, vt, rfl, hvw, hvt⟩ := hc
  obtain ⟨uw, ut, rfl, huw, hut⟩ := hd
  obtain ⟨wb, hwb⟩ : ∃ wb, wb = ((w.alloc (.cells #[.int .i64 c.1, .int .i64 c.2.1, .int .i64 (kindC c), vw, .int .i64 (repC c), vt] 52)).alloc (.cells #[.int .i64 d.1, .int .i64 d.2.1, .int .i64 (kindC d), uw, .int .i64 (repC d), ut] 52)) := ⟨_, rfl⟩
  have hB : Below w.heap.size w wb := by rw [hwb]; exact below_two _ _ _
  have hcv1 := conv_bytes (hvt.keep hB)
  have hcv2 := conv_bytes (hut.keep hB)
  have H0 : TwoCmd wb w.heap.size (w.heap.size + 1) #[.int .i64 c.1, .int .i64 c.2.1, .int .i64 (kindC c), vw, .int .i64 (repC c), vt] #[.int .i64 d.1, .int .i64 d.2.1, .int .i64 (kindC d), uw, .int .i64 (repC d), ut] vw uw c.2.2.2.1 d.2.2.2.1 := by
    refine ⟨?_, ?_, ReadsW.on hvw hB, ReadsW.on huw hB⟩
    · rw [hwb]; exact (Blk.new _ _ _).alloc _
    · have := Blk.new (w.alloc (.cells #[.int .i64 c.1, .int .i64 c.2.1, .int .i64 (kindC c), vw, .int .i64 (repC c), vt] 52)) 52 #[.int .i64 d.1, .int .i64 d.2.1, .int .i64 (kindC d), uw, .int .i64 (repC d), ut]
      rw [World.size_alloc] at this
      rw [hwb]; exact this
  rw [cmd_split]
  have hbt := beq_toB c.2.2.2.2.2 d.2.2.2.2.2
  generalize decide (c.2.2.2.2.2 = d.2.2.2.2.2) = bt at *
  generalize toB c.2.2.2.2.2 = tb1 at *
  generalize toB d.2.2.2.2.2 = tb2 at *
  generalize c.2.2.2.1 = xs at *
  generalize d.2.2.2.1 = ys at *
  generalize hres : decide (xs = ys) = bw at *
  obtain ⟨s1, n1, k1, rfl, hn1⟩ : ∃ s n k, vw = .slice s n k ∧ n = xs.length := by obtain ⟨s, k, e, _⟩ := hvw; exact ⟨s, _, k, e, rfl⟩
  obtain ⟨s2, n2, k2, rfl⟩ := Slc.of_reads hvt
  obtain ⟨s3, n3, k3, rfl, hn3⟩ : ∃ s n k, uw = .slice s n k ∧ n = ys.length := by obtain ⟨s, k, e, _⟩ := huw; exact ⟨s, _, k, e, rfl⟩
  obtain ⟨s4, n4, k4, rfl⟩ := Slc.of_reads hut
  have hm1 : xs.length ≤ maxLen := ReadsK.len hvw
  have hm3 : ys.length ≤ maxLen := ReadsK.len huw
  unfold maxLen at hm1 hm3
  subst hn1 hn3
  have HR := Lib.hid hres
  have HW := Lib.hid hwb
  have HH := Lib.hid (And.intro H0 hB)
  clear hvw hvt huw hut hres hB H0
  unfold cmdV
  generalize c.1 = x1 at *
  generalize d.1 = y1 at *
  generalize c.2.1 = x2 at *
  generalize d.2.1 = y2 at *
  generalize kindC c = x3 at *
  generalize kindC d = y3 at *
  generalize repC c = x4 at *
  generalize repC d = y4 at *
  by_cases h1 : x1 = y1
  · have b1 : (x1 != y1) = false := bne_f h1
    rw [decide_eq_true h1, Bool.true_and]
    clear h1
    by_cases h2 : x2 = y2
    · have b2 : (x2 != y2) = false := bne_f h2
      rw [decide_eq_true h2, Bool.true_and]
      clear h2
      by_cases h3 : x3 = y3
      · have b3 : (x3 != y3) = false := bne_f h3
        rw [decide_eq_true h3, Bool.true_and]
        clear h3
        by_cases h4 : x4 = y4
        · have b4 : (x4 != y4) = false := bne_f h4
          rw [decide_eq_true h4, Bool.true_and]
          clear h4
          subst hwb
          cases bt
          · clear HH HR
            go_enter Try.func68, Try.ntmps68
            go_wp2
            go_ret
            exact ⟨rfl, below_two _ _ _⟩
          · rw [Bool.true_and]
            by_cases h5 : xs.length = ys.length
            · have HL := Lib.hid h5
              have b5 : ((xs.length : Int) != (ys.length : Int)) = false := bne_f (by omega)
              clear h5
              go_enter Try.func68, Try.ntmps68
              go_wp2
              clear hcv1 hcv2 hbt b1 b2 b3 b4 b5
              generalize hw1 : World.alloc (World.alloc w _) _ = w1
              have HK := HH
              rw [hw1] at HK
              clear HH hw1 HW
              go_loopg [5] xs.length (fun m i wr => ∃ k : Nat, m + k = xs.length ∧ i = .int .i64 k ∧ xs.take k = ys.take k ∧ Drew w1 wr)
              case atStart => exact ⟨0, by omega, rfl, by simp, Drew.refl _⟩
              case round =>
                obtain ⟨k, hmk, rfl, hp, hdr⟩ := hrel
                have HP := Lib.hid (And.intro hp (And.intro hmk hdr))
                have hTC := HK.out.1.on hdr.below
                have HB := Lib.hid (HK.out.2.trans (hdr.below (B := w.heap.size)))
                have g3 := hTC.1.cell 3
                have e3 := hTC.2.1.cell 3
                have gl := hTC.1.lt
                have el := hTC.2.1.lt
                have HT := Lib.hid hTC
                have hk : k ≤ xs.length := by omega
                clear hp hmk hdr hTC
                by_cases hlt : k < xs.length
                · have hlt' : k < ys.length := by rw [← HL.out]; exact hlt
                  obtain ⟨b, off, c1, vd, hv, hb, x0, x1, xr⟩ := HT.out.2.2.1.at_ hlt
                  obtain ⟨b', off', c2, ud, hv', hb', y0, y1, yr⟩ := HT.out.2.2.2.at_ hlt'
                  injection hv with e1 e2 e4
                  injection hv' with e1' e2' e4'
                  subst e1
                  subst e1'
                  have hte := @take_eq _ xs ys k hlt hlt' HP.out.1
                  have htn := @take_ne _ _ xs ys k hlt hlt'
                  obtain ⟨s5, n5, k5, rfl⟩ := Slc.of_reads xr
                  obtain ⟨s6, n6, k6, rfl⟩ := Slc.of_reads yr
                  have hc1 := conv_bytes xr
                  have hc2 := conv_bytes yr
                  have hd1 := conv_drewN xr
                  have hd2 := conv_drewN yr
                  have hi1 : (k : Int) < xs.length := by omega
                  have hi2 : (k : Int) < ys.length := by omega
                  have hb1 := beq_toB xs[k].1 ys[k].1
                  have hb2 := beq_toB xs[k].2 ys[k].2
                  have hpe : xs[k] = ys[k] ↔ xs[k].1 = ys[k].1 ∧ xs[k].2 = ys[k].2 := Prod.ext_iff
                  generalize xs[k] = x at *
                  generalize ys[k] = y at *
                  generalize toB x.1 = a1 at *
                  generalize toB y.1 = a2 at *
                  generalize toB x.2 = a3 at *
                  generalize toB y.2 = a4 at *
                  have HV := Lib.hid (And.intro hte (And.intro htn hpe))
                  clear hte htn hpe xr yr e2 e2' e4 e4'
                  by_cases hd1 : x.1 = y.1
                  · rw [decide_eq_true hd1] at hb1
                    by_cases hd2 : x.2 = y.2
                    · rw [decide_eq_true hd2] at hb2
                      have HD := Lib.hid (And.intro hd1 hd2)
                      clear hd1 hd2
                      go_wp2
                      go_quiet (fail)
                      go_wp2
                      go_roundg (xs.length - (k + 1))
                      case measure => have := HP.out.2.1; omega
                      case rel => exact ⟨k + 1, by omega, by go_num, HV.out.1 (HV.out.2.2.2 HD.out), HP.out.2.2.step _⟩
                    · rw [decide_eq_false hd2] at hb2
                      have HD := Lib.hid hd2
                      clear hd1 hd2
                      go_wp2
                      go_quiet (fail)
                      go_wp2
                      go_ret
                      exact ⟨ret_bool ((HV.out.2.1 (fun e => HD.out (HV.out.2.2.1 e).2)).symm.trans HR.out), HB.out.trans (below_drewN _)⟩
                  · rw [decide_eq_false hd1] at hb1
                    have HD := Lib.hid hd1
                    clear hd1
                    go_wp2
                    go_quiet (fail)
                    go_wp2
                    go_ret
                    exact ⟨ret_bool ((HV.out.2.1 (fun e => HD.out (HV.out.2.2.1 e).1)).symm.trans HR.out), HB.out.trans (below_drewN _)⟩
                · go_wp2
                  go_ret
                  exact ⟨ret_bool ((take_all HL.out (by omega) HP.out.1).symm.trans HR.out), HB.out⟩
            · have b5 : ((xs.length : Int) != (ys.length : Int)) = true := bne_t (by omega)
              have hz := Lib.hid (HR.out.symm.trans (decide_eq_false (fun e => h5 (by rw [e]))))
              clear HH HR h5
              go_enter Try.func68, Try.ntmps68
              go_wp2
              go_ret
              exact ⟨ret_bool hz.out.symm, below_two _ _ _⟩
        · have b4 : (x4 != y4) = true := bne_t h4
          rw [decide_eq_false h4, Bool.false_and]
          subst hwb
          clear h4 HH hcv1 hcv2 hbt
          go_enter Try.func68, Try.ntmps68
          go_wp2
          go_ret
          exact ⟨rfl, below_two _ _ _⟩
      · have b3 : (x3 != y3) = true := bne_t h3
        rw [decide_eq_false h3, Bool.false_and]
        subst hwb
        clear h3 HH hcv1 hcv2 hbt
        go_enter Try.func68, Try.ntmps68
        go_wp2
        go_ret
        exact ⟨rfl, below_two _ _ _⟩
    · have b2 : (x2 != y2) = true := bne_t h2
      rw [decide_eq_false h2, Bool.false_and]
      subst hwb
      clear h2 HH hcv1 hcv2 hbt
      go_enter Try.func68, Try.ntmps68
      go_wp2
      go_ret
      exact ⟨rfl, below_two _ _ _⟩
  · have b1 : (x1 != y1) = true := bne_t h1
    rw [decide_eq_false h1, Bool.false_and]
    subst hwb
    clear h1 HH hcv1 hcv2 hbt
    go_enter Try.func68, Try.ntmps68
    go_wp2
    go_ret
    exact ⟨rfl, below_two _ _ _⟩
end Go.Proofs.Ytahpecbcpgjinaa
