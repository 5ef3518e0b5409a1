/-
  Chapter 39: same, of the program and of the reference.
-/
import Derived.Test.YtahpecbcpgjinaaCj
namespace Go.Proofs.Ytahpecbcpgjinaa
open Go.RowKit

theorem cmd_split (c d : Cmd) : decide (c = d) = (decide (c.1 = d.1) && (decide (c.2.1 = d.2.1) && (decide (kindC c = kindC d) && (decide (repC c = repC d) && (decide (c.2.2.2.2.2 = d.2.2.2.2.2) && decide (c.2.2.2.1 = d.2.2.2.1)))))) := by
  unfold kindC repC
  obtain ⟨a1, a2, a3, a4, a5, a6⟩ := c
  obtain ⟨b1, b2, b3, b4, b5, b6⟩ := d
  rw [Bool.eq_iff_iff]
  simp only [Bool.and_eq_true, decide_eq_true_eq, Prod.mk.injEq]
  constructor
  · rintro ⟨h1, h2, h3, h4, h5, h6⟩; exact ⟨h1, h2, h3, h5, h6, h4⟩
  · rintro ⟨h1, h2, h3, h5, h6, h4⟩; exact ⟨h1, h2, h3, h4, h5, h6⟩

set_option maxRecDepth 100000 in
set_option maxHeartbeats 2000000 in
theorem same_any (v u : Value) (c d : Cmd) (w : World) (hc : CmdAt w v c) (hd : CmdAt w u d) :
    Calls Try.prog 62 #[v, u] w (BoolMade w (decide (c = d))) := by
  obtain ⟨vw, vt, rfl, hvw, hvt⟩ := hc
  obtain ⟨uw, ut, rfl, huw, hut⟩ := hd
  obtain ⟨wb, hwb⟩ : ∃ wb, wb = ((w.alloc (.cells #[.int .i64 c.1, .int .i64 c.2.1, .int .i64 (kindC c), vw, .int .i64 (repC c), vt] 52)).alloc (.cells #[.int .i64 d.1, .int .i64 d.2.1, .int .i64 (kindC d), uw, .int .i64 (repC d), ut] 52)) := ⟨_, rfl⟩
  have hB : Below w.heap.size w wb := by rw [hwb]; exact below_two _ _ _
  have hbe := bytes_eq_any vt ut _ _ wb (hvt.keep hB) (hut.keep hB)
  have hef := equalFunc_any vw uw _ _ wb (ReadsW.on hvw hB) (ReadsW.on huw hB)
  rw [cmd_split]
  generalize decide (c.2.2.2.2.2 = d.2.2.2.2.2) = bt at *
  generalize decide (c.2.2.2.1 = d.2.2.2.1) = bw at *
  obtain ⟨s1, n1, k1, rfl⟩ := Slc.of_readsK hvw
  obtain ⟨s2, n2, k2, rfl⟩ := Slc.of_reads hvt
  obtain ⟨s3, n3, k3, rfl⟩ := Slc.of_readsK huw
  obtain ⟨s4, n4, k4, rfl⟩ := Slc.of_reads hut
  subst hwb
  have HH := Lib.hid (And.intro hbe (And.intro hef hB))
  clear hvw hvt huw hut hbe hef hB
  unfold cmdV
  generalize c.1 = x1 at *
  generalize d.1 = y1 at *
  generalize c.2.1 = x2 at *
  generalize d.2.1 = y2 at *
  generalize kindC c = x3 at *
  generalize kindC d = y3 at *
  generalize repC c = x4 at *
  generalize repC d = y4 at *
  by_cases h1 : x1 = y1
  · have b1 := beq_t h1
    rw [decide_eq_true h1, Bool.true_and]
    clear h1
    by_cases h2 : x2 = y2
    · have b2 := beq_t h2
      rw [decide_eq_true h2, Bool.true_and]
      clear h2
      by_cases h3 : x3 = y3
      · have b3 := beq_t h3
        rw [decide_eq_true h3, Bool.true_and]
        clear h3
        by_cases h4 : x4 = y4
        · have b4 := beq_t h4
          rw [decide_eq_true h4, Bool.true_and]
          clear h4
          cases bt
          · go_enter Try.func62, Try.ntmps62
            go_wp2_with fail
            refine HH.out.1.mono ?_
            rintro e w1 ⟨rfl, rfl⟩
            go_wp2
            go_ret
            exact ⟨rfl, HH.out.2.2⟩
          · rw [Bool.true_and]
            go_enter Try.func62, Try.ntmps62
            go_wp2_with fail
            refine HH.out.1.mono ?_
            rintro e w1 ⟨rfl, rfl⟩
            go_wp2_with fail
            refine HH.out.2.1.mono ?_
            rintro e w1 ⟨rfl, hb1⟩
            have H1 := Lib.hid (HH.out.2.2.trans (hb1.mono HH.out.2.2.size))
            clear hb1
            go_wp2
            go_ret
            exact ⟨rfl, H1.out⟩
        · have b4 := beq_f h4
          rw [decide_eq_false h4, Bool.false_and]
          clear h4 HH
          go_enter Try.func62, Try.ntmps62
          go_wp2
          go_ret
          exact ⟨rfl, below_two _ _ _⟩
      · have b3 := beq_f h3
        rw [decide_eq_false h3, Bool.false_and]
        clear h3 HH
        go_enter Try.func62, Try.ntmps62
        go_wp2
        go_ret
        exact ⟨rfl, below_two _ _ _⟩
    · have b2 := beq_f h2
      rw [decide_eq_false h2, Bool.false_and]
      clear h2 HH
      go_enter Try.func62, Try.ntmps62
      go_wp2
      go_ret
      exact ⟨rfl, below_two _ _ _⟩
  · have b1 := beq_f h1
    rw [decide_eq_false h1, Bool.false_and]
    clear h1 HH
    go_enter Try.func62, Try.ntmps62
    go_wp2
    go_ret
    exact ⟨rfl, below_two _ _ _⟩

end Go.Proofs.Ytahpecbcpgjinaa
