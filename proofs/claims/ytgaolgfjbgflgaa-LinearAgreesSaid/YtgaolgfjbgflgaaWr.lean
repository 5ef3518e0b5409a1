/-
  Chapter 56: Witness of the reference.
-/
import Derived.Test.YtgaolgfjbgflgaaLq
import Derived.Test.YtgaolgfjbgflgaaJc
namespace Go.Proofs.Ytgaolgfjbgflgaa
open Go.RowKit

theorem slcI2 {w : World} {u : Value} {xs : List Int} (h : Reads vi w u xs) : ∃ a k, u = .slice a xs.length k ∧ k ≤ 9223372036854775807 ∧ xs.length ≤ k := by
  obtain ⟨ao, cap, rfl, hl, hm, -, -⟩ := h
  unfold maxLen at hm
  exact ⟨ao, cap, rfl, by omega, hl⟩
/-- The reference's steps. -/
def witL (h : List Opn) : List Int → List Nat → Bool
  | [], l => compB h l
  | i :: is, l => if i < 0 then false else if (h.length : Int) ≤ i then false else if nextB h l i.toNat = true then witL h is (l ++ [i.toNat]) else false
noncomputable def rwitB (h : List Opn) (is : List Int) : Bool := wellB h && (decide (is.length ≤ h.length) && witL h is [])
theorem witL_low {h : List Opn} {is : List Int} {l : List Nat} {k : Nat} (hk : k < is.length) (hx : is[k] < 0) : witL h (is.drop k) l = false := by rw [List.drop_eq_getElem_cons hk, witL, if_pos hx]
theorem witL_high {h : List Opn} {is : List Int} {l : List Nat} {k : Nat} (hk : k < is.length) (hx : (h.length : Int) ≤ is[k]) : witL h (is.drop k) l = false := by
  rw [List.drop_eq_getElem_cons hk, witL]
  by_cases h0 : is[k] < 0
  · rw [if_pos h0]
  · rw [if_neg h0, if_pos hx]
theorem witL_no {h : List Opn} {is : List Int} {l : List Nat} {k x : Nat} (hk : k < is.length) (hx : is[k] = (x : Int)) (hn : nextB h l x = false) : witL h (is.drop k) l = false := by
  rw [List.drop_eq_getElem_cons hk, witL, hx]
  split
  · rfl
  · split
    · rfl
    · rw [Int.toNat_natCast, if_neg (by rw [hn]; exact Bool.false_ne_true)]
theorem witL_yes {h : List Opn} {is : List Int} {l : List Nat} {k x : Nat} (hk : k < is.length) (hx : is[k] = (x : Int)) (hlt : x < h.length) (hn : nextB h l x = true) : witL h (is.drop k) l = witL h (is.drop (k + 1)) (l ++ [x]) := by
  rw [List.drop_eq_getElem_cons hk, witL, hx, if_neg (by omega), if_neg (by omega), Int.toNat_natCast, if_pos hn]

set_option maxRecDepth 100000 in
set_option maxHeartbeats 8000000 in
theorem rwit_any (v u : Value) (h : List Opn) (is : List Int) (W : World) (hr : ReadsO W v h) (hq : Reads vi W u is) (hs : SmallH h) (hi : is.length ≤ 40) : Calls Try.prog 20 #[v, u] W (BoolMade W (rwitB h is)) := by
  have HR := Lib.hid hr
  have HQ := Lib.hid hq
  have HS := Lib.hid hs
  have HWE := Lib.hid (rwell_any v h W hr hs)
  obtain ⟨ao, cap, rfl, hl, hm, -, -⟩ := hr
  unfold maxLen at hm
  obtain ⟨ua, uk, rfl, huk, hul⟩ := slcI2 hq
  have HT1 : Hid (wellB h = true → is.length ≤ h.length → witL h is [] = rwitB h is) := Lib.hid fun a b => by unfold rwitB; rw [a, decide_eq_true b, Bool.true_and, Bool.true_and]
  have HT2 : Hid (wellB h = true → ¬ is.length ≤ h.length → rwitB h is = false) := Lib.hid fun a b => by unfold rwitB; rw [a, decide_eq_false b]; rfl
  have HT3 : Hid (wellB h = false → rwitB h is = false) := Lib.hid fun a => by unfold rwitB; rw [a]; rfl
  generalize rwitB h is = res at *
  clear hq hs
  go_enter Try.func20, Try.ntmps20
  go_wp2_with fail
  refine HWE.out.mono ?_
  rintro e w1 ⟨rfl, hb1⟩
  have KW := Lib.hid hb1
  clear hb1 HWE
  by_cases hw : wellB h = true
  · have HW1 := Lib.hid (HT1.out hw)
    have HW2 := Lib.hid (HT2.out hw)
    rw [hw]
    clear hw HT1 HT2 HT3
    by_cases hlen : is.length ≤ h.length
    · have HRES : Hid (witL h (is.drop 0) [] = res) := Lib.hid (HW1.out hlen)
      have hle : ¬ (h.length : Int) < is.length := by omega
      have hle2 : ¬ h.length < is.length := by omega
      have HLEN := Lib.hid (And.intro hlen trivial)
      clear hlen HW1 HW2
      go_wp2
      clear hle hle2
      go_loopg [5, 6] is.length (fun m o i wr => ∃ (k : Nat) (l : List Nat), m + k = is.length ∧ i = .int .i64 k ∧ witL h (is.drop k) l = res ∧ l.length = k ∧ (∀ z ∈ l, z < h.length) ∧ wr.ownsRow w1.heap.size 3 1 o l.length ((intsN l).map vi) ∧ Below w1.heap.size w1 wr)
      case atStart => exact ⟨0, [], by omega, rfl, HRES.out, rfl, (fun z hz => by cases hz), World.ownsRow_made w1 #[] 0 (Nat.le_refl _) (Nat.zero_le _) rfl, (Below.refl _ _).alloc (Nat.le_refl _) _⟩
      case round =>
        clear HRES
        obtain ⟨k, l, hmk, rfl, hwl, hll, hlm, hown, hbel⟩ := hrel
        have HM := Lib.hid hmk
        have HWL := Lib.hid hwl
        have HLL := Lib.hid hll
        have HLM := Lib.hid hlm
        have HO := Lib.hid hown
        have HB := Lib.hid hbel
        have KW2 := Lib.hid (KW.out.trans (hbel.mono KW.out.size))
        obtain ⟨oa, on, ok, rfl⟩ := row_slc hown
        have hk : k ≤ is.length := by omega
        clear hmk hwl hll hlm hown hbel
        by_cases hlt : k < is.length
        · obtain ⟨b, o1, c1, hv, hbb, hcc⟩ := int_at HQ.out hlt
          injection hv with e1 e2 e3
          subst e1
          have q0 := (KW2.out.cell (p := ⟨b, o1 + k, none⟩) hbb).trans hcc
          have HLO := Lib.hid (fun hx => HWL.out.symm.trans (witL_low (h := h) (l := l) hlt hx))
          have HHI := Lib.hid (fun hx => HWL.out.symm.trans (witL_high (h := h) (l := l) hlt hx))
          have HNO := Lib.hid (fun (x : Nat) hx hn => HWL.out.symm.trans (witL_no (h := h) (l := l) (x := x) hlt hx hn))
          have HYE := Lib.hid (fun (x : Nat) hx hxl hn => (witL_yes (h := h) (l := l) (x := x) hlt hx hxl hn).symm.trans HWL.out)
          have hki : (k : Int) < is.length := by omega
          have hk0 : (0 : Int) ≤ (k : Int) := by omega
          have hk40 : k < 40 := by omega
          clear e2 e3 hbb hcc
          generalize is[k] = x at *
          unfold vi at q0
          clear hlt
          by_cases hx0 : x < 0
          · have HF := Lib.hid (HLO.out hx0)
            go_wp2
            go_ret
            exact ⟨ret_bool HF.out.symm, KW2.out⟩
          · by_cases hxh : (h.length : Int) ≤ x
            · have HF := Lib.hid (HHI.out hxh)
              go_wp2
              go_ret
              exact ⟨ret_bool HF.out.symm, KW2.out⟩
            · obtain ⟨m, rfl⟩ := Int.eq_ofNat_of_zero_le (show 0 ≤ x by omega)
              have hmh : m < h.length := by omega
              have HMH := Lib.hid (And.intro hmh trivial)
              have HRN := Lib.hid (rnext_any _ _ h l m wr (HR.out.on KW2.out) (Reads.of_owns HO.out) HS.out hmh HLM.out (by rw [HLL.out]; omega))
              clear hmh HLO HHI
              by_cases hn : nextB h l m = true
              · have HYW := Lib.hid (HYE.out m rfl HMH.out.1 hn)
                rw [hn] at HRN
                clear hn HNO HYE
                go_wp2_with fail
                refine HRN.out.mono ?_
                rintro e w4 ⟨rfl, hb4⟩
                have q1 := (hb4.cell (p := ⟨b, o1 + k, none⟩) (World.block_lt_of_cell? _ _ q0)).trans q0
                have HB4 := Lib.hid (HB.out.trans (hb4.mono HB.out.size))
                have HO4 := Lib.hid (below_row HO.out hb4)
                have KW4 := Lib.hid (KW2.out.trans (hb4.mono KW2.out.size))
                have HBX : Hid (∀ c, Below w4.heap.size w4 (w4.alloc c)) := Lib.hid fun c => (Below.refl _ _).alloc (Nat.le_refl _) c
                have hlk := HLL.out
                have HL40 : Hid (l.length ≤ 40) := Lib.hid (by omega)
                clear hb4 HRN q0 HB HO KW2 hlk
                go_wp2_with (first | (at_builtin; refine appendi_reads2 rfl (.tmp 48) (.tmp 53) rfl w1.heap.size _ (.slice (some ⟨w4.heap.size, 0, none⟩) 1 1) l.length (intsN l) [((m : Nat) : Int)] rfl (below_row HO4.out (HBX.out _)) rfl (one_readsI w4 ((m : Nat) : Int)) (by have := HL40.out; simp; omega) (Nat.le_trans HB4.out.size (HBX.out _).size) ?_))
                intro v6 w6 hown6 hgr6
                have K6 : Hid (Below w1.heap.size w1 w6) := Lib.hid ((HB4.out.trans ((HBX.out _).mono HB4.out.size)).grown hgr6 (Nat.le_trans HB4.out.size (HBX.out _).size) (fun j hj => (HO4.out.lt j hj).1))
                have HO6 : Hid (w6.ownsRow w1.heap.size 3 1 v6 (l ++ [m]).length ((intsN (l ++ [m])).map vi)) := Lib.hid (by simpa [intsN] using hown6)
                clear hown6 hgr6 q1
                go_wp2
                go_roundg (is.length - (k + 1))
                case measure => have := HM.out; omega
                case rel => exact ⟨k + 1, l ++ [m], by omega, by go_num, HYW.out, by rw [List.length_append, HLL.out]; rfl, (fun z hz => by
                  rcases List.mem_append.1 hz with h1 | h1
                  · exact HLM.out z h1
                  · rw [List.mem_singleton.1 h1]; exact HMH.out.1), HO6.out, K6.out⟩
              · have HF := Lib.hid (HNO.out m rfl (Bool.eq_false_iff.2 hn))
                rw [Bool.eq_false_iff.2 hn] at HRN
                clear hn HNO HYE
                go_wp2_with fail
                refine HRN.out.mono ?_
                rintro e w4 ⟨rfl, hb4⟩
                have KW4 := Lib.hid (KW2.out.trans (hb4.mono KW2.out.size))
                clear hb4 HRN q0
                go_wp2
                go_ret
                exact ⟨ret_bool HF.out.symm, KW4.out⟩
        · have hkk : k = is.length := by omega
          have HF : Hid (compB h l = res) := Lib.hid (by have := HWL.out; rw [hkk, List.drop_length] at this; exact this)
          have HCO := Lib.hid (rcomplete56 _ _ h l wr (HR.out.on KW2.out) (Reads.of_owns HO.out))
          rw [HF.out] at HCO
          go_wp2_with fail
          refine HCO.out.mono ?_
          rintro e w4 ⟨rfl, hb4⟩
          have KW4 := Lib.hid (KW2.out.trans (hb4.mono KW2.out.size))
          clear hb4 HCO
          go_wp2
          go_ret
          exact ⟨rfl, KW4.out⟩
    · have HF := Lib.hid (HW2.out hlen)
      have hle : (h.length : Int) < is.length := by omega
      go_wp2
      go_ret
      exact ⟨ret_bool HF.out.symm, KW.out⟩
  · have HF := Lib.hid (HT3.out (Bool.eq_false_iff.2 hw))
    rw [Bool.eq_false_iff.2 hw]
    clear hw
    go_wp2
    go_ret
    exact ⟨ret_bool HF.out.symm, KW.out⟩
end Go.Proofs.Ytgaolgfjbgflgaa
