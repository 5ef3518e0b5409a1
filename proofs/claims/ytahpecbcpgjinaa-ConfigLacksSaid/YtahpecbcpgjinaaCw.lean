/-
  Chapter 39: Usable of the reference; large.
-/
import Derived.Test.YtahpecbcpgjinaaCg
namespace Go.Proofs.Ytahpecbcpgjinaa
open Go.RowKit

theorem Drew.blk {w w' : World} {g : Nat} {t : TypeId} {cs : Array Value} (h : Blk w g t cs) (hd : Drew w w') : Blk w' g t cs := h.on hd.below

theorem boxed_of {w w1 : World} {cs : Array Value} {t : TypeId} (h : w.alloc (.cells cs t) = w1) : Blk w1 w.heap.size t cs ∧ Below w.heap.size w w1 := by
  subst h; exact ⟨Blk.new w t cs, (Below.refl _ _).alloc (Nat.le_refl _) _⟩

set_option maxRecDepth 100000 in
set_option maxHeartbeats 4000000 in
theorem rusable_any (g : Value) (M R : Int) (F : List Int) (w : World) (hg : Gen w g M R F) :
    Calls Try.prog 32 #[g] w (BoolMade w (usableB M R F)) := by
  obtain ⟨vF, cl, vA, vO, rfl, hr, ⟨a2, n2, k2, rfl⟩, ⟨a3, n3, k3, rfl⟩⟩ := hg
  obtain ⟨ao, cap, rfl, hl, hm, hn, hx⟩ := hr
  unfold maxLen at hm
  generalize hv : usableB M R F = res
  unfold gen
  by_cases hM : M = 1 ∨ M = 2
  · by_cases h1 : 1 ≤ R
    · by_cases h2 : R ≤ 12
      · by_cases hF : F = []
        · have HV := Lib.hid (hv.symm.trans (usable_no (.inr (.inr (.inr hF)))))
          have h0 : ((F.length : Int) == 0) = true := by rw [hF]; rfl
          have h0' : F.length = 0 := by rw [hF]; rfl
          rw [h0']
          clear hv hF hx hn h0 h0'
          rcases hM with rfl | rfl
          all_goals
            go_enter Try.func32, Try.ntmps32
            go_wp2
            go_ret
            exact ⟨ret_bool HV.out.symm, (Below.refl _ _).alloc (Nat.le_refl _) _⟩
        · rw [usable_split hM h1 h2 hF] at hv
          have h0 : ((F.length : Int) == 0) = false := by rw [beq_eq_false_iff_ne]; have := List.length_pos_iff.2 hF; omega
          have HV := Lib.hid hv
          have HXX := Lib.hid hx
          clear hv hF hx hn
          rcases hM with rfl | rfl
          all_goals
            go_enter Try.func32, Try.ntmps32
            go_wp2
            clear h0
            generalize hw1 : World.alloc w _ = w1
            have hB := boxed_of hw1
            have HB1 := Lib.hid hB
            clear hw1 hB
            go_loopg [3] F.length (fun m i wr => ∃ (k : Nat) (L : Int), m + k = F.length ∧ i = .int .i64 k ∧ okTo R F k L ∧ Drew w1 wr)
            case atStart => exact ⟨0, -1, by omega, rfl, okTo_start _ _, Drew.refl _⟩
            case round =>
              obtain ⟨k, L, hmk, rfl, hp, hw⟩ := hrel
              have HP := Lib.hid (And.intro hp hmk)
              have HW := Lib.hid (And.intro hw (HB1.out.2.trans (hw.below.mono HB1.out.2.size)))
              have hk : k ≤ F.length := by omega
              have hBr := Drew.blk HB1.out.1 hw
              have g1 := hBr.cell 1
              have g2 := hBr.cell 2
              have hlw := hBr.lt
              have hcell : ∀ b o, b < w.heap.size → wr.cell? ⟨b, o, none⟩ = w.cell? ⟨b, o, none⟩ := fun b o hb => HW.out.2.cell (p := ⟨b, o, none⟩) hb
              have HCE := Lib.hid hcell
              clear hp hmk hw hBr hcell
              by_cases hlt : k < F.length
              · obtain ⟨b, off, rfl, hb, hc⟩ := HXX.out (by intro e; subst e; simp at hlt)
                have hc1 : wr.cell? ⟨b, off + k, none⟩ = some (.int .i64 F[k]) := (HCE.out _ _ hb).trans (hc k hlt)
                have HA := Lib.hid (@okTo_step R F k L HP.out.1 hlt)
                have HB := Lib.hid (@okTo_bad R F k L HP.out.1 hlt)
                by_cases hk0 : k = 0
                · have hL : L = -1 := by
                    obtain ⟨_, _, _, d⟩ := HP.out.1
                    rcases d with d | d
                    · exact d
                    · subst hk0; simp at d
                  have z1 : decide (0 < k) = false := decide_eq_false (by omega)
                  have z2 : decide ((0 : Int) < (k : Int)) = false := decide_eq_false (by omega)
                  have HL := Lib.hid hL
                  clear hc hk0 hL
                  generalize F[k] = x at *
                  by_cases a1 : x < 0
                  · go_wp2
                    go_quiet (fail)
                    go_wp2
                    go_ret
                    exact ⟨ret_bool ((HB.out (.inl (by have := HL.out; omega))).symm.trans HV.out), HW.out.2.trans (below_drewN _)⟩
                  · have a1' := decide_eq_false a1
                    by_cases a2 : R ≤ x
                    · have a2' := decide_eq_true a2
                      go_wp2
                      go_quiet (fail)
                      go_wp2
                      go_ret
                      exact ⟨ret_bool ((HB.out (.inr a2)).symm.trans HV.out), HW.out.2.trans (below_drewN _)⟩
                    · have a2' := decide_eq_false a2
                      go_wp2
                      go_quiet (fail)
                      go_wp2
                      go_roundg (F.length - (k + 1))
                      case measure => have := HP.out.2; omega
                      case rel => exact ⟨k + 1, x, by omega, by go_num, HA.out (by have := HL.out; omega) (by omega), HW.out.1.step _⟩
                · have hk1 : 0 < k := by omega
                  clear hk0
                  have hc2 : wr.cell? ⟨b, off + (k - 1), none⟩ = some (.int .i64 F[k - 1]) := (HCE.out _ _ hb).trans (hc (k - 1) (by omega))
                  have HL := Lib.hid (okTo_last HP.out.1 hk1 hk)
                  have hk2 : (1 : Int) ≤ k := by omega
                  have hk3 : (0 : Int) < k := by omega
                  have hk4 : ((k : Int) - 1) < F.length := by omega
                  clear hc
                  generalize F[k] = x at *
                  generalize F[k - 1] = y at *
                  by_cases a1 : x < 0
                  · go_wp2
                    go_quiet (fail)
                    go_wp2
                    go_ret
                    exact ⟨ret_bool ((HB.out (.inl (by have := HP.out.1.2.2.1; omega))).symm.trans HV.out), HW.out.2.trans (below_drewN _)⟩
                  · have a1' := decide_eq_false a1
                    by_cases a2 : R ≤ x
                    · have a2' := decide_eq_true a2
                      go_wp2
                      go_quiet (fail)
                      go_wp2
                      go_ret
                      exact ⟨ret_bool ((HB.out (.inr a2)).symm.trans HV.out), HW.out.2.trans (below_drewN _)⟩
                    · have a2' := decide_eq_false a2
                      by_cases a3 : x ≤ y
                      · go_wp2
                        have e1 : IntKind.i64.wrap ((k : Int) - 1) = (k : Int) - 1 := IntWalk.i64_in _ (by omega)
                        have e2 : (0 : Int) ≤ (k : Int) - 1 := by omega
                        have e3 : ((k : Int) - 1).toNat = k - 1 := by omega
                        go_quiet (fail)
                        clear e1 e2 e3
                        go_wp2
                        go_ret
                        exact ⟨ret_bool ((HB.out (.inl (by have := HL.out; omega))).symm.trans HV.out), HW.out.2.trans (below_drewN _)⟩
                      · have a3' := decide_eq_false a3
                        go_wp2
                        have e1 : IntKind.i64.wrap ((k : Int) - 1) = (k : Int) - 1 := IntWalk.i64_in _ (by omega)
                        have e2 : (0 : Int) ≤ (k : Int) - 1 := by omega
                        have e3 : ((k : Int) - 1).toNat = k - 1 := by omega
                        go_quiet (fail)
                        clear e1 e2 e3
                        go_wp2
                        go_roundg (F.length - (k + 1))
                        case measure => have := HP.out.2; omega
                        case rel => exact ⟨k + 1, x, by omega, by go_num, HA.out (by have := HL.out; omega) (by omega), HW.out.1.step _⟩
              · go_wp2
                go_ret
                exact ⟨ret_bool ((okTo_all HP.out.1 (by omega)).symm.trans HV.out), HW.out.2⟩
      · have HV := Lib.hid (hv.symm.trans (usable_no (.inr (.inr (.inl (by omega))))))
        clear hv hx hn
        rcases hM with rfl | rfl
        all_goals
          go_enter Try.func32, Try.ntmps32
          go_wp2
          go_ret
          exact ⟨ret_bool HV.out.symm, (Below.refl _ _).alloc (Nat.le_refl _) _⟩
    · have HV := Lib.hid (hv.symm.trans (usable_no (.inr (.inl (by omega)))))
      clear hv hx hn
      rcases hM with rfl | rfl
      all_goals
        go_enter Try.func32, Try.ntmps32
        go_wp2
        go_ret
        exact ⟨ret_bool HV.out.symm, (Below.refl _ _).alloc (Nat.le_refl _) _⟩
  · have HV := Lib.hid (hv.symm.trans (usable_no (.inl hM)))
    have e1 := bne_t (fun h => hM (.inl h))
    have e2 := bne_t (fun h => hM (.inr h))
    clear hv hx hn hM
    go_enter Try.func32, Try.ntmps32
    go_wp2
    go_ret
    exact ⟨ret_bool HV.out.symm, (Below.refl _ _).alloc (Nat.le_refl _) _⟩

/-- Longer lists than the laws look at. -/
def largeB (F : List Int) (B C : List Cmd) : Bool := decide (50 < F.length) || decide (40 < B.length) || decide (40 < C.length)
theorem large_any (g u v : Value) (M R : Int) (F : List Int) (B C : List Cmd) (w : World) (hg : Gen w g M R F) (hb : ReadsC w u B) (hc : ReadsC w v C) :
    Calls Try.prog 14 #[g, u, v] w (BoolMade w (largeB F B C)) := by
  obtain ⟨vF, cl, vA, vO, rfl, hr, ⟨a2, n2, k2, rfl⟩, ⟨a3, n3, k3, rfl⟩⟩ := hg
  obtain ⟨ao, cap, rfl, hl, hm, hn, hx⟩ := hr
  obtain ⟨ao1, cap1, rfl, hl1, hm1, hn1, hx1⟩ := hb
  obtain ⟨ao2, cap2, rfl, hl2, hm2, hn2, hx2⟩ := hc
  unfold maxLen at hm hm1 hm2
  generalize hv : largeB F B C = res
  unfold largeB at hv
  have HV := Lib.hid hv
  clear hv hn hx hn1 hx1 hn2 hx2
  unfold gen
  by_cases h1 : 50 < F.length
  · have e1 : decide ((50 : Int) < F.length) = true := decide_eq_true (by omega)
    go_enter Try.func14, Try.ntmps14
    go_wp2
    go_ret
    exact ⟨ret_bool (by rw [← HV.out, decide_eq_true h1]; rfl), (Below.refl _ _).alloc (Nat.le_refl _) _⟩
  · have e1 : decide ((50 : Int) < F.length) = false := decide_eq_false (by omega)
    by_cases h2 : 40 < B.length
    · have e2 : decide ((40 : Int) < B.length) = true := decide_eq_true (by omega)
      go_enter Try.func14, Try.ntmps14
      go_wp2
      go_ret
      exact ⟨ret_bool (by rw [← HV.out, decide_eq_false h1, decide_eq_true h2]; rfl), (Below.refl _ _).alloc (Nat.le_refl _) _⟩
    · have e2 : decide ((40 : Int) < B.length) = false := decide_eq_false (by omega)
      by_cases h3 : 40 < C.length
      · have e3 : decide ((40 : Int) < C.length) = true := decide_eq_true (by omega)
        go_enter Try.func14, Try.ntmps14
        go_wp2
        go_ret
        exact ⟨ret_bool (by rw [← HV.out, decide_eq_false h1, decide_eq_false h2, decide_eq_true h3]; rfl), (Below.refl _ _).alloc (Nat.le_refl _) _⟩
      · have e3 : decide ((40 : Int) < C.length) = false := decide_eq_false (by omega)
        go_enter Try.func14, Try.ntmps14
        go_wp2
        go_ret
        exact ⟨ret_bool (by rw [← HV.out, decide_eq_false h1, decide_eq_false h2, decide_eq_false h3]; rfl), (Below.refl _ _).alloc (Nat.le_refl _) _⟩
end Go.Proofs.Ytahpecbcpgjinaa
