/-
  Chapter 56: Earliest of the reference.
-/
import Derived.Test.YtgaolgfjbgflgaaEp
import Derived.Test.YtgaolgfjbgflgaaLu
import Derived.Test.YtgaolgfjbgflgaaLk
import Derived.Test.YtgaolgfjbgflgaaRc
namespace Go.Proofs.Ytgaolgfjbgflgaa
open Go.RowKit

theorem all_few {h : List Opn} (hw : Well h) (hn : h.length ≤ 7) : (allL h).length ≤ 1000000 := by
  rw [all_len hw]
  unfold C
  have h1 := cnt_le h (h.length + 1) 0
  have h2 := seqN_mono (show freeK 0 h.length ≤ 7 from Nat.le_trans (freeK_le 0 h.length) hn)
  have h3 : seqN 7 ≤ 1000000 := by decide
  omega
def PairMade (w : World) (p : Int × Bool) (e : Ending) (w' : World) : Prop := e = .returned (.tuple #[.int .i64 p.1, .bool p.2]) ∧ Below w.heap.size w w'

set_option maxRecDepth 100000 in
set_option maxHeartbeats 8000000 in
theorem rear_any (v : Value) (h : List Opn) (W : World) (hr : ReadsO W v h) (hs : SmallH h) (hn : h.length ≤ 7) (hw : Well h) : Calls Try.prog 22 #[v] W (PairMade W (rearL h)) := by
  have HR := Lib.hid hr
  have HS := Lib.hid hs
  have HW := Lib.hid hw
  have HAL := Lib.hid (rall_any v h W hr hs (by omega) (all_few hw hn))
  obtain ⟨ao, cap, rfl, hl, hcm, -, -⟩ := hr
  unfold maxLen at hcm
  clear hs hw
  go_enter Try.func22, Try.ntmps22
  go_wp2_with fail
  refine HAL.out.mono ?_
  rintro e w1 ⟨v1, rfl, ho⟩
  have KW := Lib.hid ho.1
  obtain ⟨a1, k1, rfl⟩ := ho.length
  clear ho HAL
  by_cases hz : allL h = []
  · have HE : Hid (rearL h = (bestK h h.length, true)) := Lib.hid (if_pos hz)
    rw [hz]
    clear hz
    go_wp2
    go_loopg [4, 5] h.length (fun m b i wr => ∃ k : Nat, m + k = h.length ∧ i = .int .i64 k ∧ b = .int .i64 (bestK h k) ∧ Below W.heap.size W wr)
    case atStart => exact ⟨0, by omega, rfl, rfl, KW.out⟩
    case round =>
      obtain ⟨k, hmk, rfl, rfl, hbel⟩ := hrel
      have HM := Lib.hid hmk
      have KB := Lib.hid hbel
      have hk : k ≤ h.length := by omega
      clear hmk hbel KW
      by_cases hlt : k < h.length
      · obtain ⟨b, off, cap1, a4, c4, a5, c5, hv, _, _, hm4, hm5, hl4, hl5, hcell, r1, r2⟩ := HR.out.at2 hlt
        injection hv with e1 e2 e3
        subst e1
        have hki : (k : Int) < h.length := by omega
        have hk0 : (0 : Int) ≤ (k : Int) := by omega
        have HSN := Lib.hid (bestK_snoc hlt)
        have dd := Lib.hid (hcell wr KB.out)
        have x3 := dd.out.2.2.2.1
        have HCU := Lib.hid (rcut_any _ h (endO h[k]) wr (HR.out.on KB.out) (by omega))
        have HSC := Lib.hid (small_cut HS.out (endO h[k]))
        have HCL := Lib.hid (cutL_len h (endO h[k]))
        have HWC := Lib.hid (well_cut HW.out (endO h[k]))
        clear e2 e3 hcell r1 r2 dd
        unfold stepB at HSN
        generalize h[k] = x at *
        generalize cutL h (endO x) = c at *
        have hcl := HCL.out
        generalize bestK h k = bk at *
        by_cases h1 : endO x = -1
        · have e1 := bne_f h1
          have HB : Hid (bestK h (k + 1) = bk) := Lib.hid (by rw [HSN.out, if_neg (fun q => q.1 h1)])
          clear h1 HSN
          go_wp2
          go_roundg (h.length - (k + 1))
          case measure => have := HM.out; omega
          case rel => exact ⟨k + 1, by omega, by go_num, by rw [HB.out], KB.out⟩
        · have e1 := bne_t h1
          have H1 := Lib.hid h1
          clear h1
          by_cases h2 : bk < 0
          · have H2 := Lib.hid h2
            go_wp2_with fail
            refine HCU.out.mono ?_
            rintro e w4 ⟨v4, rfl, hr4, hb4⟩
            have HA4 := Lib.hid (rall_any v4 c w4 hr4 HSC.out (by omega) (all_few HWC.out (by omega)))
            have KB4 := Lib.hid (KB.out.trans (hb4.mono KB.out.size))
            clear hr4 hb4 HCU x3
            go_wp2_with fail
            refine HA4.out.mono ?_
            rintro e w5 ⟨v5, rfl, ho5⟩
            have KB5 := Lib.hid (KB4.out.trans (ho5.1.mono KB4.out.size))
            obtain ⟨a5', k5', rfl⟩ := ho5.length
            clear ho5 HA4
            by_cases hz : allL c = []
            · have HB : Hid (bestK h (k + 1) = endO x) := Lib.hid (by rw [HSN.out, if_pos ⟨H1.out, .inl H2.out, hz⟩])
              rw [hz]
              clear hz HSN
              go_wp2
              go_roundg (h.length - (k + 1))
              case measure => have := HM.out; omega
              case rel => exact ⟨k + 1, by omega, by go_num, by rw [HB.out], KB5.out⟩
            · have HB : Hid (bestK h (k + 1) = bk) := Lib.hid (by rw [HSN.out, if_neg (fun q => hz q.2.2)])
              have hz1 : ¬ (allL c).length = 0 := fun q => hz (List.length_eq_zero_iff.1 q)
              have hz2 : (((allL c).length : Int) == 0) = false := beq_f (by omega)
              clear hz HSN
              generalize (allL c).length = nn at *
              go_wp2
              go_roundg (h.length - (k + 1))
              case measure => have := HM.out; omega
              case rel => exact ⟨k + 1, by omega, by go_num, by rw [HB.out], KB5.out⟩
          · by_cases h3 : endO x < bk
            · have H3 := Lib.hid h3
              go_wp2_with fail
              refine HCU.out.mono ?_
              rintro e w4 ⟨v4, rfl, hr4, hb4⟩
              have HA4 := Lib.hid (rall_any v4 c w4 hr4 HSC.out (by omega) (all_few HWC.out (by omega)))
              have KB4 := Lib.hid (KB.out.trans (hb4.mono KB.out.size))
              clear hr4 hb4 HCU x3
              go_wp2_with fail
              refine HA4.out.mono ?_
              rintro e w5 ⟨v5, rfl, ho5⟩
              have KB5 := Lib.hid (KB4.out.trans (ho5.1.mono KB4.out.size))
              obtain ⟨a5', k5', rfl⟩ := ho5.length
              clear ho5 HA4
              by_cases hz : allL c = []
              · have HB : Hid (bestK h (k + 1) = endO x) := Lib.hid (by rw [HSN.out, if_pos ⟨H1.out, .inr H3.out, hz⟩])
                rw [hz]
                clear hz HSN
                go_wp2
                go_roundg (h.length - (k + 1))
                case measure => have := HM.out; omega
                case rel => exact ⟨k + 1, by omega, by go_num, by rw [HB.out], KB5.out⟩
              · have HB : Hid (bestK h (k + 1) = bk) := Lib.hid (by rw [HSN.out, if_neg (fun q => hz q.2.2)])
                have hz1 : ¬ (allL c).length = 0 := fun q => hz (List.length_eq_zero_iff.1 q)
                have hz2 : (((allL c).length : Int) == 0) = false := beq_f (by omega)
                clear hz HSN
                generalize (allL c).length = nn at *
                go_wp2
                go_roundg (h.length - (k + 1))
                case measure => have := HM.out; omega
                case rel => exact ⟨k + 1, by omega, by go_num, by rw [HB.out], KB5.out⟩
            · have HB : Hid (bestK h (k + 1) = bk) := Lib.hid (by rw [HSN.out, if_neg (fun q => q.2.1.elim h2 h3)])
              clear HSN
              go_wp2
              go_roundg (h.length - (k + 1))
              case measure => have := HM.out; omega
              case rel => exact ⟨k + 1, by omega, by go_num, by rw [HB.out], KB.out⟩
      · have hkk : k = h.length := by omega
        subst hkk
        go_wp2
        refine bodyPost_ret (v := .tuple #[.int .i64 (bestK h h.length), .bool true]) (by simp [results, Try.results22, go_sem]) rfl ?_
        exact ⟨by rw [HE.out], KB.out⟩
  · have HE : Hid (rearL h = (0, false)) := Lib.hid (if_neg hz)
    have hz1 : ¬ (allL h).length = 0 := fun q => hz (List.length_eq_zero_iff.1 q)
    have hz2 : (0 : Int) < ((allL h).length : Int) := by omega
    clear hz
    generalize (allL h).length = nn at *
    go_wp2
    refine bodyPost_ret (v := .tuple #[.int .i64 0, .bool false]) (by simp [results, Try.results22, go_sem]) rfl ?_
    exact ⟨by rw [HE.out], KW.out⟩
end Go.Proofs.Ytgaolgfjbgflgaa
