/-
  Chapter 55: the guarantees of a session hold of a history without a reason against it.
-/
import Derived.Test.YtjijlhjggpibjaaGv
import Derived.Test.YtjijlhjggpibjaaGn
namespace Go.Proofs.Ytjijlhjggpibjaa
open Go.RowKit

theorem ear_pr {h : List Opn} {o r : Nat} (h1 : earO (nth h o) (nth h r) = true) : prI h o r = true := by
  have h2 := of_decide_eq_true h1
  unfold prI precB
  exact decide_eq_true ⟨by omega, h2.2.2⟩
theorem all_true {S xs : List Str} (h : ∀ s ∈ xs, s ∈ S) : (!xs.any fun s => !decide (s ∈ S)) = true := by
  rw [Bool.not_eq_true', List.any_eq_false]
  intro s hs
  rw [decide_eq_true (h s hs)]; decide
theorem rdO_iff2 {h : List Opn} {i : Nat} {x : Opn} (e : nth h i = x) (hr : rdO x = true) : RdI h i := by rw [← e] at hr; exact of_decide_eq_true hr
theorem upO_iff2 {h : List Opn} {i : Nat} {x : Opn} (e : nth h i = x) (hr : upO x = true) : UpI h i := by rw [← e] at hr; exact of_decide_eq_true hr
set_option maxRecDepth 100000 in
set_option maxHeartbeats 16000000 in
theorem directR_any (v : Value) (h : List Opn) (W : World) (hr : ReadsO W v h) (hs : SmallH h) (hyp : ∀ x o, x < h.length → o < h.length → RdI h x → rdO (nth h o) = true → earO (nth h o) (nth h x) = true → ∀ s ∈ seeO (nth h o), s ∈ seeO (nth h x)) : Calls Try.prog 55 #[v, .func (.func 56) #[] #[], .func (.func 57) #[] #[]] W (BoolMade W true) := by
  have HR := Lib.hid hr
  have HS := Lib.hid hs
  have HY := Lib.hid hyp
  obtain ⟨ao, cap, rfl, hl, hm, -, -⟩ := hr
  unfold maxLen at hm
  clear hs hyp
  go_enter Try.func55, Try.ntmps55
  go_wp2
  go_loopg [14] h.length (fun m i wr => ∃ x : Nat, m + x = h.length ∧ i = .int .i64 ((x : Nat) : Int) ∧ Below W.heap.size W wr)
  case atStart => exact ⟨0, by omega, rfl, Below.refl _ _⟩
  case round =>
    obtain ⟨x, hmx, rfl, hbel⟩ := hrel
    have HM := Lib.hid hmx
    have KW := Lib.hid hbel
    have hx : x ≤ h.length := by omega
    clear hmx hbel
    by_cases hxl : x < h.length
    · obtain ⟨bx, offx, capx, a4x, c4x, a5x, c5x, hv, _, _, hm4, hm5, hl4, hl5, hcell, r1, r2⟩ := HR.out.at2 hxl
      injection hv with e1 e2 e3
      subst e1
      have hxi : (x : Int) < h.length := by omega
      have hx0 : (0 : Int) ≤ (x : Int) := by omega
      obtain ⟨d0, d1, d2, d3, d4, d5⟩ := hcell wr KW.out
      have HNx := Lib.hid (And.intro r1 r2)
      have FITx := Lib.hid (And.intro (HS.out.2 _ (List.getElem_mem hxl)).1 (And.intro (HS.out.2 _ (List.getElem_mem hxl)).2.1 (And.intro (HS.out.2 _ (List.getElem_mem hxl)).2.2.1 (HS.out.2 _ (List.getElem_mem hxl)).2.2.2)))
      have HNXx : Hid (nth h x = h[x]) := Lib.hid (nth_eq hxl)
      have HXLx := Lib.hid (And.intro hxl trivial)
      clear e2 e3 hcell r1 r2 hm4 hm5 hl4 hl5
      generalize h[x] = x0 at *
      clear hxl
      have HBXx : Hid (Below wr.heap.size wr (wr.alloc (.cells #[.int .i64 (cliO x0), .int .i64 (kindO x0), .int .i64 (begO x0), .int .i64 (endO x0), .slice a4x (addO x0).length c4x, .slice a5x (seeO x0).length c5x] 36))) := Lib.hid ((Below.refl _ _).alloc (Nat.le_refl _) _)
      have HBOx : Hid (BoxO (wr.alloc (.cells #[.int .i64 (cliO x0), .int .i64 (kindO x0), .int .i64 (begO x0), .int .i64 (endO x0), .slice a4x (addO x0).length c4x, .slice a5x (seeO x0).length c5x] 36)) wr.heap.size x0 (.slice a4x (addO x0).length c4x) (.slice a5x (seeO x0).length c5x)) := Lib.hid ⟨Blk.new _ _ _, (HNx.out.1.keep KW.out).keep HBXx.out, (HNx.out.2.keep KW.out).keep HBXx.out⟩
      go_wp2_with fail
      refine (sreads_any _ x0 _ HBOx.out.at_).mono ?_
      rintro e w1 ⟨rfl, hb⟩
      replace KW := Lib.hid (KW.out.trans (HBXx.out.mono KW.out.size))
      replace HBOx := Lib.hid (HBOx.out.on hb)
      replace KW := Lib.hid (KW.out.trans (hb.mono KW.out.size))
      clear hb
      clear d0 d1 d2 d3 d4 d5 HBXx
      cases hrd : rdO x0 with
      | false =>
        clear hrd HBOx
        go_wp2
        go_roundg (h.length - (x + 1))
        case measure => have := HM.out; omega
        case rel => exact ⟨x + 1, by omega, by go_num, KW.out⟩
      | true =>
        have HRD : Hid (RdI h x) := Lib.hid (rdO_iff2 HNXx.out hrd)
        clear hrd
        obtain ⟨c0, c1, c2, c3, c4, c5, c6⟩ := blk6 HBOx.out.1
        go_wp2_with fail
        refine (setOf_any _ (seeO x0) _ HBOx.out.2.2 FITx.out.2.1 FITx.out.2.2.2).mono ?_
        rintro e w2 ⟨bs, rfl, hset, hb⟩
        have HSET := Lib.hid hset
        replace HBOx := Lib.hid (HBOx.out.on hb)
        replace KW := Lib.hid (KW.out.trans (hb.mono KW.out.size))
        clear hb
        clear c0 c1 c2 c3 c4 c5 c6
        clear hset
        generalize wr.heap.size = g8 at *
        go_wp2
        obtain ⟨G2, hG2⟩ : ∃ G, G = gk := ⟨_, rfl⟩
        subst hG2
        go_loopg [26] h.length (fun m i wr => ∃ z : Nat, m + z = h.length ∧ i = .int .i64 ((z : Nat) : Int) ∧ Below W.heap.size W wr ∧ SetM wr bs (seeO x0) ∧ BoxO wr g8 x0 (.slice a4x (addO x0).length c4x) (.slice a5x (seeO x0).length c5x))
        case atStart => exact ⟨0, by omega, rfl, KW.out, HSET.out, HBOx.out⟩
        case round =>
          clear KW HSET HBOx
          obtain ⟨z, hmz, rfl, hbel, hset, kHBOx⟩ := hrel
          have HMz := Lib.hid hmz
          have KW := Lib.hid hbel
          have HSET := Lib.hid hset
          have HBOx := Lib.hid kHBOx
          have hz : z ≤ h.length := by omega
          clear hmz hbel hset kHBOx
          by_cases hzl : z < h.length
          · obtain ⟨bz, offz, capz, a4z, c4z, a5z, c5z, hv, _, _, hm4, hm5, hl4, hl5, hcell, r1, r2⟩ := HR.out.at2 hzl
            injection hv with e1 e2 e3
            injection e1 with e1
            injection e1 with e1 e4
            subst e1 e4
            have hzi : (z : Int) < h.length := by omega
            have hz0 : (0 : Int) ≤ (z : Int) := by omega
            obtain ⟨d0, d1, d2, d3, d4, d5⟩ := hcell wr KW.out
            have HNz := Lib.hid (And.intro r1 r2)
            have FITz := Lib.hid (And.intro (HS.out.2 _ (List.getElem_mem hzl)).1 (And.intro (HS.out.2 _ (List.getElem_mem hzl)).2.1 (And.intro (HS.out.2 _ (List.getElem_mem hzl)).2.2.1 (HS.out.2 _ (List.getElem_mem hzl)).2.2.2)))
            have HNXz : Hid (nth h z = h[z]) := Lib.hid (nth_eq hzl)
            have HXLz := Lib.hid (And.intro hzl trivial)
            clear e2 e3 hcell r1 r2 hm4 hm5 hl4 hl5
            generalize h[z] = z0 at *
            clear hzl
            have HBXz : Hid (Below wr.heap.size wr (wr.alloc (.cells #[.int .i64 (cliO z0), .int .i64 (kindO z0), .int .i64 (begO z0), .int .i64 (endO z0), .slice a4z (addO z0).length c4z, .slice a5z (seeO z0).length c5z] 36))) := Lib.hid ((Below.refl _ _).alloc (Nat.le_refl _) _)
            have HBOz : Hid (BoxO (wr.alloc (.cells #[.int .i64 (cliO z0), .int .i64 (kindO z0), .int .i64 (begO z0), .int .i64 (endO z0), .slice a4z (addO z0).length c4z, .slice a5z (seeO z0).length c5z] 36)) wr.heap.size z0 (.slice a4z (addO z0).length c4z) (.slice a5z (seeO z0).length c5z)) := Lib.hid ⟨Blk.new _ _ _, (HNz.out.1.keep KW.out).keep HBXz.out, (HNz.out.2.keep KW.out).keep HBXz.out⟩
            replace HSET := Lib.hid (HSET.out.on HBXz.out)
            replace HBOx := Lib.hid (HBOx.out.on HBXz.out)
            go_wp2_with fail
            refine (sreads_any _ z0 _ HBOz.out.at_).mono ?_
            rintro e w4 ⟨rfl, hb⟩
            replace KW := Lib.hid (KW.out.trans (HBXz.out.mono KW.out.size))
            replace HSET := Lib.hid (HSET.out.on hb)
            replace HBOx := Lib.hid (HBOx.out.on hb)
            replace HBOz := Lib.hid (HBOz.out.on hb)
            replace KW := Lib.hid (KW.out.trans (hb.mono KW.out.size))
            clear hb
            clear d0 d1 d2 d3 d4 d5 HBXz
            cases hkd : rdO z0 with
            | false =>
              clear hkd HBOz
              go_wp2
              go_roundg (h.length - (z + 1))
              case measure => have := HMz.out; omega
              case rel => exact ⟨z + 1, by omega, by go_num, KW.out, HSET.out, HBOx.out⟩
            | true =>
              obtain ⟨c0, c1, c2, c3, c4, c5, c6⟩ := blk6 HBOz.out.1
              obtain ⟨f0, f1, f2, f3, f4, f5, f6⟩ := blk6 HBOx.out.1
              go_wp2_with fail
              refine (searlier_any _ _ z0 x0 _ HBOz.out.at_ HBOx.out.at_).mono ?_
              rintro e w5 ⟨rfl, hb⟩
              replace HSET := Lib.hid (HSET.out.on hb)
              replace HBOx := Lib.hid (HBOx.out.on hb)
              replace HBOz := Lib.hid (HBOz.out.on hb)
              replace KW := Lib.hid (KW.out.trans (hb.mono KW.out.size))
              clear hb
              clear c0 c1 c2 c3 c4 c5 c6
              clear f0 f1 f2 f3 f4 f5 f6
              cases her : earO z0 x0 with
              | false =>
                clear hkd her HBOz
                go_wp2
                go_roundg (h.length - (z + 1))
                case measure => have := HMz.out; omega
                case rel => exact ⟨z + 1, by omega, by go_num, KW.out, HSET.out, HBOx.out⟩
              | true =>
                have HAL : Hid (∀ s ∈ seeO z0, s ∈ seeO x0) := Lib.hid (by have h9 := HY.out x z HXLx.out.1 HXLz.out.1 HRD.out; rw [HNXz.out, HNXx.out] at h9; exact h9 hkd her)
                clear hkd her
                obtain ⟨c0, c1, c2, c3, c4, c5, c6⟩ := blk6 HBOz.out.1
                go_wp2_with fail
                refine (ssees_any z0 _ _ _ _ _ _ _).mono ?_
                rintro e w6 ⟨rfl, hb⟩
                replace HSET := Lib.hid (HSET.out.on hb)
                replace HBOx := Lib.hid (HBOx.out.on hb)
                replace HBOz := Lib.hid (HBOz.out.on hb)
                replace KW := Lib.hid (KW.out.trans (hb.mono KW.out.size))
                clear hb
                clear c0 c1 c2 c3 c4 c5 c6
                go_wp2_with fail
                refine (all_any bs _ (seeO x0) (seeO z0) _ HBOz.out.2.2 HSET.out FITz.out.2.2.2).mono ?_
                rintro e w7 ⟨rfl, hb⟩
                rw [all_true HAL.out]
                replace HSET := Lib.hid (HSET.out.on hb)
                replace HBOx := Lib.hid (HBOx.out.on hb)
                replace KW := Lib.hid (KW.out.trans (hb.mono KW.out.size))
                clear hb
                clear HAL HBOz
                go_wp2
                go_roundg (h.length - (z + 1))
                case measure => have := HMz.out; omega
                case rel => exact ⟨z + 1, by omega, by go_num, KW.out, HSET.out, HBOx.out⟩
          · clear HBOx HSET
            go_wp2
            go_roundg (h.length - (x + 1))
            case measure => have := HM.out; omega
            case rel => exact ⟨x + 1, by omega, by go_num, KW.out⟩
    · go_wp2
      go_ret
      exact ⟨rfl, KW.out⟩
set_option maxRecDepth 100000 in
set_option maxHeartbeats 16000000 in
theorem directU_any (v : Value) (h : List Opn) (W : World) (hr : ReadsO W v h) (hs : SmallH h) (hyp : ∀ x o, x < h.length → o < h.length → RdI h x → upO (nth h o) = true → earO (nth h o) (nth h x) = true → ∀ s ∈ addO (nth h o), s ∈ seeO (nth h x)) : Calls Try.prog 55 #[v, .func (.func 58) #[] #[], .func (.func 59) #[] #[]] W (BoolMade W true) := by
  have HR := Lib.hid hr
  have HS := Lib.hid hs
  have HY := Lib.hid hyp
  obtain ⟨ao, cap, rfl, hl, hm, -, -⟩ := hr
  unfold maxLen at hm
  clear hs hyp
  go_enter Try.func55, Try.ntmps55
  go_wp2
  go_loopg [14] h.length (fun m i wr => ∃ x : Nat, m + x = h.length ∧ i = .int .i64 ((x : Nat) : Int) ∧ Below W.heap.size W wr)
  case atStart => exact ⟨0, by omega, rfl, Below.refl _ _⟩
  case round =>
    obtain ⟨x, hmx, rfl, hbel⟩ := hrel
    have HM := Lib.hid hmx
    have KW := Lib.hid hbel
    have hx : x ≤ h.length := by omega
    clear hmx hbel
    by_cases hxl : x < h.length
    · obtain ⟨bx, offx, capx, a4x, c4x, a5x, c5x, hv, _, _, hm4, hm5, hl4, hl5, hcell, r1, r2⟩ := HR.out.at2 hxl
      injection hv with e1 e2 e3
      subst e1
      have hxi : (x : Int) < h.length := by omega
      have hx0 : (0 : Int) ≤ (x : Int) := by omega
      obtain ⟨d0, d1, d2, d3, d4, d5⟩ := hcell wr KW.out
      have HNx := Lib.hid (And.intro r1 r2)
      have FITx := Lib.hid (And.intro (HS.out.2 _ (List.getElem_mem hxl)).1 (And.intro (HS.out.2 _ (List.getElem_mem hxl)).2.1 (And.intro (HS.out.2 _ (List.getElem_mem hxl)).2.2.1 (HS.out.2 _ (List.getElem_mem hxl)).2.2.2)))
      have HNXx : Hid (nth h x = h[x]) := Lib.hid (nth_eq hxl)
      have HXLx := Lib.hid (And.intro hxl trivial)
      clear e2 e3 hcell r1 r2 hm4 hm5 hl4 hl5
      generalize h[x] = x0 at *
      clear hxl
      have HBXx : Hid (Below wr.heap.size wr (wr.alloc (.cells #[.int .i64 (cliO x0), .int .i64 (kindO x0), .int .i64 (begO x0), .int .i64 (endO x0), .slice a4x (addO x0).length c4x, .slice a5x (seeO x0).length c5x] 36))) := Lib.hid ((Below.refl _ _).alloc (Nat.le_refl _) _)
      have HBOx : Hid (BoxO (wr.alloc (.cells #[.int .i64 (cliO x0), .int .i64 (kindO x0), .int .i64 (begO x0), .int .i64 (endO x0), .slice a4x (addO x0).length c4x, .slice a5x (seeO x0).length c5x] 36)) wr.heap.size x0 (.slice a4x (addO x0).length c4x) (.slice a5x (seeO x0).length c5x)) := Lib.hid ⟨Blk.new _ _ _, (HNx.out.1.keep KW.out).keep HBXx.out, (HNx.out.2.keep KW.out).keep HBXx.out⟩
      go_wp2_with fail
      refine (sreads_any _ x0 _ HBOx.out.at_).mono ?_
      rintro e w1 ⟨rfl, hb⟩
      replace KW := Lib.hid (KW.out.trans (HBXx.out.mono KW.out.size))
      replace HBOx := Lib.hid (HBOx.out.on hb)
      replace KW := Lib.hid (KW.out.trans (hb.mono KW.out.size))
      clear hb
      clear d0 d1 d2 d3 d4 d5 HBXx
      cases hrd : rdO x0 with
      | false =>
        clear hrd HBOx
        go_wp2
        go_roundg (h.length - (x + 1))
        case measure => have := HM.out; omega
        case rel => exact ⟨x + 1, by omega, by go_num, KW.out⟩
      | true =>
        have HRD : Hid (RdI h x) := Lib.hid (rdO_iff2 HNXx.out hrd)
        clear hrd
        obtain ⟨c0, c1, c2, c3, c4, c5, c6⟩ := blk6 HBOx.out.1
        go_wp2_with fail
        refine (setOf_any _ (seeO x0) _ HBOx.out.2.2 FITx.out.2.1 FITx.out.2.2.2).mono ?_
        rintro e w2 ⟨bs, rfl, hset, hb⟩
        have HSET := Lib.hid hset
        replace HBOx := Lib.hid (HBOx.out.on hb)
        replace KW := Lib.hid (KW.out.trans (hb.mono KW.out.size))
        clear hb
        clear c0 c1 c2 c3 c4 c5 c6
        clear hset
        generalize wr.heap.size = g8 at *
        go_wp2
        obtain ⟨G2, hG2⟩ : ∃ G, G = gk := ⟨_, rfl⟩
        subst hG2
        go_loopg [26] h.length (fun m i wr => ∃ z : Nat, m + z = h.length ∧ i = .int .i64 ((z : Nat) : Int) ∧ Below W.heap.size W wr ∧ SetM wr bs (seeO x0) ∧ BoxO wr g8 x0 (.slice a4x (addO x0).length c4x) (.slice a5x (seeO x0).length c5x))
        case atStart => exact ⟨0, by omega, rfl, KW.out, HSET.out, HBOx.out⟩
        case round =>
          clear KW HSET HBOx
          obtain ⟨z, hmz, rfl, hbel, hset, kHBOx⟩ := hrel
          have HMz := Lib.hid hmz
          have KW := Lib.hid hbel
          have HSET := Lib.hid hset
          have HBOx := Lib.hid kHBOx
          have hz : z ≤ h.length := by omega
          clear hmz hbel hset kHBOx
          by_cases hzl : z < h.length
          · obtain ⟨bz, offz, capz, a4z, c4z, a5z, c5z, hv, _, _, hm4, hm5, hl4, hl5, hcell, r1, r2⟩ := HR.out.at2 hzl
            injection hv with e1 e2 e3
            injection e1 with e1
            injection e1 with e1 e4
            subst e1 e4
            have hzi : (z : Int) < h.length := by omega
            have hz0 : (0 : Int) ≤ (z : Int) := by omega
            obtain ⟨d0, d1, d2, d3, d4, d5⟩ := hcell wr KW.out
            have HNz := Lib.hid (And.intro r1 r2)
            have FITz := Lib.hid (And.intro (HS.out.2 _ (List.getElem_mem hzl)).1 (And.intro (HS.out.2 _ (List.getElem_mem hzl)).2.1 (And.intro (HS.out.2 _ (List.getElem_mem hzl)).2.2.1 (HS.out.2 _ (List.getElem_mem hzl)).2.2.2)))
            have HNXz : Hid (nth h z = h[z]) := Lib.hid (nth_eq hzl)
            have HXLz := Lib.hid (And.intro hzl trivial)
            clear e2 e3 hcell r1 r2 hm4 hm5 hl4 hl5
            generalize h[z] = z0 at *
            clear hzl
            have HBXz : Hid (Below wr.heap.size wr (wr.alloc (.cells #[.int .i64 (cliO z0), .int .i64 (kindO z0), .int .i64 (begO z0), .int .i64 (endO z0), .slice a4z (addO z0).length c4z, .slice a5z (seeO z0).length c5z] 36))) := Lib.hid ((Below.refl _ _).alloc (Nat.le_refl _) _)
            have HBOz : Hid (BoxO (wr.alloc (.cells #[.int .i64 (cliO z0), .int .i64 (kindO z0), .int .i64 (begO z0), .int .i64 (endO z0), .slice a4z (addO z0).length c4z, .slice a5z (seeO z0).length c5z] 36)) wr.heap.size z0 (.slice a4z (addO z0).length c4z) (.slice a5z (seeO z0).length c5z)) := Lib.hid ⟨Blk.new _ _ _, (HNz.out.1.keep KW.out).keep HBXz.out, (HNz.out.2.keep KW.out).keep HBXz.out⟩
            replace HSET := Lib.hid (HSET.out.on HBXz.out)
            replace HBOx := Lib.hid (HBOx.out.on HBXz.out)
            go_wp2_with fail
            refine (supdates_any _ z0 _ HBOz.out.at_).mono ?_
            rintro e w4 ⟨rfl, hb⟩
            replace KW := Lib.hid (KW.out.trans (HBXz.out.mono KW.out.size))
            replace HSET := Lib.hid (HSET.out.on hb)
            replace HBOx := Lib.hid (HBOx.out.on hb)
            replace HBOz := Lib.hid (HBOz.out.on hb)
            replace KW := Lib.hid (KW.out.trans (hb.mono KW.out.size))
            clear hb
            clear d0 d1 d2 d3 d4 d5 HBXz
            cases hkd : upO z0 with
            | false =>
              clear hkd HBOz
              go_wp2
              go_roundg (h.length - (z + 1))
              case measure => have := HMz.out; omega
              case rel => exact ⟨z + 1, by omega, by go_num, KW.out, HSET.out, HBOx.out⟩
            | true =>
              obtain ⟨c0, c1, c2, c3, c4, c5, c6⟩ := blk6 HBOz.out.1
              obtain ⟨f0, f1, f2, f3, f4, f5, f6⟩ := blk6 HBOx.out.1
              go_wp2_with fail
              refine (searlier_any _ _ z0 x0 _ HBOz.out.at_ HBOx.out.at_).mono ?_
              rintro e w5 ⟨rfl, hb⟩
              replace HSET := Lib.hid (HSET.out.on hb)
              replace HBOx := Lib.hid (HBOx.out.on hb)
              replace HBOz := Lib.hid (HBOz.out.on hb)
              replace KW := Lib.hid (KW.out.trans (hb.mono KW.out.size))
              clear hb
              clear c0 c1 c2 c3 c4 c5 c6
              clear f0 f1 f2 f3 f4 f5 f6
              cases her : earO z0 x0 with
              | false =>
                clear hkd her HBOz
                go_wp2
                go_roundg (h.length - (z + 1))
                case measure => have := HMz.out; omega
                case rel => exact ⟨z + 1, by omega, by go_num, KW.out, HSET.out, HBOx.out⟩
              | true =>
                have HAL : Hid (∀ s ∈ addO z0, s ∈ seeO x0) := Lib.hid (by have h9 := HY.out x z HXLx.out.1 HXLz.out.1 HRD.out; rw [HNXz.out, HNXx.out] at h9; exact h9 hkd her)
                clear hkd her
                obtain ⟨c0, c1, c2, c3, c4, c5, c6⟩ := blk6 HBOz.out.1
                go_wp2_with fail
                refine (sadds_any z0 _ _ _ _ _ _ _).mono ?_
                rintro e w6 ⟨rfl, hb⟩
                replace HSET := Lib.hid (HSET.out.on hb)
                replace HBOx := Lib.hid (HBOx.out.on hb)
                replace HBOz := Lib.hid (HBOz.out.on hb)
                replace KW := Lib.hid (KW.out.trans (hb.mono KW.out.size))
                clear hb
                clear c0 c1 c2 c3 c4 c5 c6
                go_wp2_with fail
                refine (all_any bs _ (seeO x0) (addO z0) _ HBOz.out.2.1 HSET.out FITz.out.2.2.1).mono ?_
                rintro e w7 ⟨rfl, hb⟩
                rw [all_true HAL.out]
                replace HSET := Lib.hid (HSET.out.on hb)
                replace HBOx := Lib.hid (HBOx.out.on hb)
                replace KW := Lib.hid (KW.out.trans (hb.mono KW.out.size))
                clear hb
                clear HAL HBOz
                go_wp2
                go_roundg (h.length - (z + 1))
                case measure => have := HMz.out; omega
                case rel => exact ⟨z + 1, by omega, by go_num, KW.out, HSET.out, HBOx.out⟩
          · clear HBOx HSET
            go_wp2
            go_roundg (h.length - (x + 1))
            case measure => have := HM.out; omega
            case rel => exact ⟨x + 1, by omega, by go_num, KW.out⟩
    · go_wp2
      go_ret
      exact ⟨rfl, KW.out⟩
set_option maxRecDepth 100000 in
set_option maxHeartbeats 16000000 in
theorem throughU_any (v : Value) (h : List Opn) (W : World) (hr : ReadsO W v h) (hs : SmallH h) (hyp : ∀ x u o, x < h.length → u < h.length → o < h.length → RdI h x → UpI h u → (∃ s ∈ addO (nth h u), s ∈ seeO (nth h x)) → upO (nth h o) = true → earO (nth h o) (nth h u) = true → ∀ s ∈ addO (nth h o), s ∈ seeO (nth h x)) : Calls Try.prog 60 #[v, .func (.func 58) #[] #[], .func (.func 59) #[] #[]] W (BoolMade W true) := by
  have HR := Lib.hid hr
  have HS := Lib.hid hs
  have HY := Lib.hid hyp
  obtain ⟨ao, cap, rfl, hl, hm, -, -⟩ := hr
  unfold maxLen at hm
  clear hs hyp
  go_enter Try.func60, Try.ntmps60
  go_wp2
  go_loopg [16] h.length (fun m i wr => ∃ x : Nat, m + x = h.length ∧ i = .int .i64 ((x : Nat) : Int) ∧ Below W.heap.size W wr)
  case atStart => exact ⟨0, by omega, rfl, Below.refl _ _⟩
  case round =>
    obtain ⟨x, hmx, rfl, hbel⟩ := hrel
    have HM := Lib.hid hmx
    have KW := Lib.hid hbel
    have hx : x ≤ h.length := by omega
    clear hmx hbel
    by_cases hxl : x < h.length
    · obtain ⟨bx, offx, capx, a4x, c4x, a5x, c5x, hv, _, _, hm4, hm5, hl4, hl5, hcell, r1, r2⟩ := HR.out.at2 hxl
      injection hv with e1 e2 e3
      subst e1
      have hxi : (x : Int) < h.length := by omega
      have hx0 : (0 : Int) ≤ (x : Int) := by omega
      obtain ⟨d0, d1, d2, d3, d4, d5⟩ := hcell wr KW.out
      have HNx := Lib.hid (And.intro r1 r2)
      have FITx := Lib.hid (And.intro (HS.out.2 _ (List.getElem_mem hxl)).1 (And.intro (HS.out.2 _ (List.getElem_mem hxl)).2.1 (And.intro (HS.out.2 _ (List.getElem_mem hxl)).2.2.1 (HS.out.2 _ (List.getElem_mem hxl)).2.2.2)))
      have HNXx : Hid (nth h x = h[x]) := Lib.hid (nth_eq hxl)
      have HXLx := Lib.hid (And.intro hxl trivial)
      clear e2 e3 hcell r1 r2 hm4 hm5 hl4 hl5
      generalize h[x] = x0 at *
      clear hxl
      have HBXx : Hid (Below wr.heap.size wr (wr.alloc (.cells #[.int .i64 (cliO x0), .int .i64 (kindO x0), .int .i64 (begO x0), .int .i64 (endO x0), .slice a4x (addO x0).length c4x, .slice a5x (seeO x0).length c5x] 36))) := Lib.hid ((Below.refl _ _).alloc (Nat.le_refl _) _)
      have HBOx : Hid (BoxO (wr.alloc (.cells #[.int .i64 (cliO x0), .int .i64 (kindO x0), .int .i64 (begO x0), .int .i64 (endO x0), .slice a4x (addO x0).length c4x, .slice a5x (seeO x0).length c5x] 36)) wr.heap.size x0 (.slice a4x (addO x0).length c4x) (.slice a5x (seeO x0).length c5x)) := Lib.hid ⟨Blk.new _ _ _, (HNx.out.1.keep KW.out).keep HBXx.out, (HNx.out.2.keep KW.out).keep HBXx.out⟩
      go_wp2_with fail
      refine (sreads_any _ x0 _ HBOx.out.at_).mono ?_
      rintro e w1 ⟨rfl, hb⟩
      replace KW := Lib.hid (KW.out.trans (HBXx.out.mono KW.out.size))
      replace HBOx := Lib.hid (HBOx.out.on hb)
      replace KW := Lib.hid (KW.out.trans (hb.mono KW.out.size))
      clear hb
      clear d0 d1 d2 d3 d4 d5 HBXx
      cases hrd : rdO x0 with
      | false =>
        clear hrd HBOx
        go_wp2
        go_roundg (h.length - (x + 1))
        case measure => have := HM.out; omega
        case rel => exact ⟨x + 1, by omega, by go_num, KW.out⟩
      | true =>
        have HRD : Hid (RdI h x) := Lib.hid (rdO_iff2 HNXx.out hrd)
        clear hrd
        obtain ⟨c0, c1, c2, c3, c4, c5, c6⟩ := blk6 HBOx.out.1
        go_wp2_with fail
        refine (setOf_any _ (seeO x0) _ HBOx.out.2.2 FITx.out.2.1 FITx.out.2.2.2).mono ?_
        rintro e w2 ⟨bs, rfl, hset, hb⟩
        have HSET := Lib.hid hset
        replace HBOx := Lib.hid (HBOx.out.on hb)
        replace KW := Lib.hid (KW.out.trans (hb.mono KW.out.size))
        clear hb
        clear c0 c1 c2 c3 c4 c5 c6
        clear hset
        generalize wr.heap.size = g8 at *
        go_wp2
        obtain ⟨G2, hG2⟩ : ∃ G, G = gk := ⟨_, rfl⟩
        subst hG2
        go_loopg [28] h.length (fun m i wr => ∃ u : Nat, m + u = h.length ∧ i = .int .i64 ((u : Nat) : Int) ∧ Below W.heap.size W wr ∧ SetM wr bs (seeO x0) ∧ BoxO wr g8 x0 (.slice a4x (addO x0).length c4x) (.slice a5x (seeO x0).length c5x))
        case atStart => exact ⟨0, by omega, rfl, KW.out, HSET.out, HBOx.out⟩
        case round =>
          clear KW HSET HBOx
          obtain ⟨u, hmu, rfl, hbel, hset, kHBOx⟩ := hrel
          have HMu := Lib.hid hmu
          have KW := Lib.hid hbel
          have HSET := Lib.hid hset
          have HBOx := Lib.hid kHBOx
          have hu : u ≤ h.length := by omega
          clear hmu hbel hset kHBOx
          by_cases hul : u < h.length
          · obtain ⟨bu, offu, capu, a4u, c4u, a5u, c5u, hv, _, _, hm4, hm5, hl4, hl5, hcell, r1, r2⟩ := HR.out.at2 hul
            injection hv with e1 e2 e3
            injection e1 with e1
            injection e1 with e1 e4
            subst e1 e4
            have hui : (u : Int) < h.length := by omega
            have hu0 : (0 : Int) ≤ (u : Int) := by omega
            obtain ⟨d0, d1, d2, d3, d4, d5⟩ := hcell wr KW.out
            have HNu := Lib.hid (And.intro r1 r2)
            have FITu := Lib.hid (And.intro (HS.out.2 _ (List.getElem_mem hul)).1 (And.intro (HS.out.2 _ (List.getElem_mem hul)).2.1 (And.intro (HS.out.2 _ (List.getElem_mem hul)).2.2.1 (HS.out.2 _ (List.getElem_mem hul)).2.2.2)))
            have HNXu : Hid (nth h u = h[u]) := Lib.hid (nth_eq hul)
            have HXLu := Lib.hid (And.intro hul trivial)
            clear e2 e3 hcell r1 r2 hm4 hm5 hl4 hl5
            generalize h[u] = u0 at *
            clear hul
            have HBXu : Hid (Below wr.heap.size wr (wr.alloc (.cells #[.int .i64 (cliO u0), .int .i64 (kindO u0), .int .i64 (begO u0), .int .i64 (endO u0), .slice a4u (addO u0).length c4u, .slice a5u (seeO u0).length c5u] 36))) := Lib.hid ((Below.refl _ _).alloc (Nat.le_refl _) _)
            have HBOu : Hid (BoxO (wr.alloc (.cells #[.int .i64 (cliO u0), .int .i64 (kindO u0), .int .i64 (begO u0), .int .i64 (endO u0), .slice a4u (addO u0).length c4u, .slice a5u (seeO u0).length c5u] 36)) wr.heap.size u0 (.slice a4u (addO u0).length c4u) (.slice a5u (seeO u0).length c5u)) := Lib.hid ⟨Blk.new _ _ _, (HNu.out.1.keep KW.out).keep HBXu.out, (HNu.out.2.keep KW.out).keep HBXu.out⟩
            replace HSET := Lib.hid (HSET.out.on HBXu.out)
            replace HBOx := Lib.hid (HBOx.out.on HBXu.out)
            go_wp2_with fail
            refine (supdates_any _ u0 _ HBOu.out.at_).mono ?_
            rintro e w3 ⟨rfl, hb⟩
            replace KW := Lib.hid (KW.out.trans (HBXu.out.mono KW.out.size))
            replace HSET := Lib.hid (HSET.out.on hb)
            replace HBOx := Lib.hid (HBOx.out.on hb)
            replace HBOu := Lib.hid (HBOu.out.on hb)
            replace KW := Lib.hid (KW.out.trans (hb.mono KW.out.size))
            clear hb
            clear d0 d1 d2 d3 d4 d5 HBXu
            cases hup : upO u0 with
            | false =>
              clear hup HBOu
              go_wp2
              go_roundg (h.length - (u + 1))
              case measure => have := HMu.out; omega
              case rel => exact ⟨u + 1, by omega, by go_num, KW.out, HSET.out, HBOx.out⟩
            | true =>
              have HUP : Hid (UpI h u) := Lib.hid (upO_iff2 HNXu.out hup)
              clear hup
              obtain ⟨c0, c1, c2, c3, c4, c5, c6⟩ := blk6 HBOu.out.1
              go_wp2_with fail
              refine (touch_any bs _ (seeO x0) (addO u0) _ HBOu.out.2.1 HSET.out FITu.out.2.2.1).mono ?_
              rintro e w3b ⟨rfl, hb⟩
              replace HSET := Lib.hid (HSET.out.on hb)
              replace HBOx := Lib.hid (HBOx.out.on hb)
              replace HBOu := Lib.hid (HBOu.out.on hb)
              replace KW := Lib.hid (KW.out.trans (hb.mono KW.out.size))
              clear hb
              clear c0 c1 c2 c3 c4 c5 c6
              cases hto : (addO u0).any fun s => decide (s ∈ seeO x0) with
              | false =>
                clear hto HBOu
                go_wp2
                go_roundg (h.length - (u + 1))
                case measure => have := HMu.out; omega
                case rel => exact ⟨u + 1, by omega, by go_num, KW.out, HSET.out, HBOx.out⟩
              | true =>
                have HTO : Hid (∃ s ∈ addO u0, s ∈ seeO x0) := Lib.hid (by
                  obtain ⟨s, h1, h2⟩ := List.any_eq_true.1 hto
                  exact ⟨s, h1, of_decide_eq_true h2⟩)
                clear hto
                generalize wr.heap.size = g11 at *
                go_wp2
                obtain ⟨G3, hG3⟩ : ∃ G, G = gk := ⟨_, rfl⟩
                subst hG3
                go_loopg [44] h.length (fun m i wr => ∃ z : Nat, m + z = h.length ∧ i = .int .i64 ((z : Nat) : Int) ∧ Below W.heap.size W wr ∧ SetM wr bs (seeO x0) ∧ BoxO wr g8 x0 (.slice a4x (addO x0).length c4x) (.slice a5x (seeO x0).length c5x) ∧ BoxO wr g11 u0 (.slice a4u (addO u0).length c4u) (.slice a5u (seeO u0).length c5u))
                case atStart => exact ⟨0, by omega, rfl, KW.out, HSET.out, HBOx.out, HBOu.out⟩
                case round =>
                  clear KW HSET HBOx HBOu
                  obtain ⟨z, hmz, rfl, hbel, hset, kHBOx, kHBOu⟩ := hrel
                  have HMz := Lib.hid hmz
                  have KW := Lib.hid hbel
                  have HSET := Lib.hid hset
                  have HBOx := Lib.hid kHBOx
                  have HBOu := Lib.hid kHBOu
                  have hz : z ≤ h.length := by omega
                  clear hmz hbel hset kHBOx kHBOu
                  by_cases hzl : z < h.length
                  · obtain ⟨bz, offz, capz, a4z, c4z, a5z, c5z, hv, _, _, hm4, hm5, hl4, hl5, hcell, r1, r2⟩ := HR.out.at2 hzl
                    injection hv with e1 e2 e3
                    injection e1 with e1
                    injection e1 with e1 e4
                    subst e1 e4
                    have hzi : (z : Int) < h.length := by omega
                    have hz0 : (0 : Int) ≤ (z : Int) := by omega
                    obtain ⟨d0, d1, d2, d3, d4, d5⟩ := hcell wr KW.out
                    have HNz := Lib.hid (And.intro r1 r2)
                    have FITz := Lib.hid (And.intro (HS.out.2 _ (List.getElem_mem hzl)).1 (And.intro (HS.out.2 _ (List.getElem_mem hzl)).2.1 (And.intro (HS.out.2 _ (List.getElem_mem hzl)).2.2.1 (HS.out.2 _ (List.getElem_mem hzl)).2.2.2)))
                    have HNXz : Hid (nth h z = h[z]) := Lib.hid (nth_eq hzl)
                    have HXLz := Lib.hid (And.intro hzl trivial)
                    clear e2 e3 hcell r1 r2 hm4 hm5 hl4 hl5
                    generalize h[z] = z0 at *
                    clear hzl
                    have HBXz : Hid (Below wr.heap.size wr (wr.alloc (.cells #[.int .i64 (cliO z0), .int .i64 (kindO z0), .int .i64 (begO z0), .int .i64 (endO z0), .slice a4z (addO z0).length c4z, .slice a5z (seeO z0).length c5z] 36))) := Lib.hid ((Below.refl _ _).alloc (Nat.le_refl _) _)
                    have HBOz : Hid (BoxO (wr.alloc (.cells #[.int .i64 (cliO z0), .int .i64 (kindO z0), .int .i64 (begO z0), .int .i64 (endO z0), .slice a4z (addO z0).length c4z, .slice a5z (seeO z0).length c5z] 36)) wr.heap.size z0 (.slice a4z (addO z0).length c4z) (.slice a5z (seeO z0).length c5z)) := Lib.hid ⟨Blk.new _ _ _, (HNz.out.1.keep KW.out).keep HBXz.out, (HNz.out.2.keep KW.out).keep HBXz.out⟩
                    replace HSET := Lib.hid (HSET.out.on HBXz.out)
                    replace HBOx := Lib.hid (HBOx.out.on HBXz.out)
                    replace HBOu := Lib.hid (HBOu.out.on HBXz.out)
                    go_wp2_with fail
                    refine (supdates_any _ z0 _ HBOz.out.at_).mono ?_
                    rintro e w4 ⟨rfl, hb⟩
                    replace KW := Lib.hid (KW.out.trans (HBXz.out.mono KW.out.size))
                    replace HSET := Lib.hid (HSET.out.on hb)
                    replace HBOx := Lib.hid (HBOx.out.on hb)
                    replace HBOu := Lib.hid (HBOu.out.on hb)
                    replace HBOz := Lib.hid (HBOz.out.on hb)
                    replace KW := Lib.hid (KW.out.trans (hb.mono KW.out.size))
                    clear hb
                    clear d0 d1 d2 d3 d4 d5 HBXz
                    cases hkd : upO z0 with
                    | false =>
                      clear hkd HBOz
                      go_wp2
                      go_roundg (h.length - (z + 1))
                      case measure => have := HMz.out; omega
                      case rel => exact ⟨z + 1, by omega, by go_num, KW.out, HSET.out, HBOx.out, HBOu.out⟩
                    | true =>
                      obtain ⟨c0, c1, c2, c3, c4, c5, c6⟩ := blk6 HBOz.out.1
                      obtain ⟨f0, f1, f2, f3, f4, f5, f6⟩ := blk6 HBOu.out.1
                      go_wp2_with fail
                      refine (searlier_any _ _ z0 u0 _ HBOz.out.at_ HBOu.out.at_).mono ?_
                      rintro e w5 ⟨rfl, hb⟩
                      replace HSET := Lib.hid (HSET.out.on hb)
                      replace HBOx := Lib.hid (HBOx.out.on hb)
                      replace HBOu := Lib.hid (HBOu.out.on hb)
                      replace HBOz := Lib.hid (HBOz.out.on hb)
                      replace KW := Lib.hid (KW.out.trans (hb.mono KW.out.size))
                      clear hb
                      clear c0 c1 c2 c3 c4 c5 c6
                      clear f0 f1 f2 f3 f4 f5 f6
                      cases her : earO z0 u0 with
                      | false =>
                        clear hkd her HBOz
                        go_wp2
                        go_roundg (h.length - (z + 1))
                        case measure => have := HMz.out; omega
                        case rel => exact ⟨z + 1, by omega, by go_num, KW.out, HSET.out, HBOx.out, HBOu.out⟩
                      | true =>
                        have HAL : Hid (∀ s ∈ addO z0, s ∈ seeO x0) := Lib.hid (by have h9 := HY.out x u z HXLx.out.1 HXLu.out.1 HXLz.out.1 HRD.out HUP.out; rw [HNXz.out, HNXu.out, HNXx.out] at h9; exact h9 HTO.out hkd her)
                        clear hkd her
                        obtain ⟨c0, c1, c2, c3, c4, c5, c6⟩ := blk6 HBOz.out.1
                        go_wp2_with fail
                        refine (sadds_any z0 _ _ _ _ _ _ _).mono ?_
                        rintro e w6 ⟨rfl, hb⟩
                        replace HSET := Lib.hid (HSET.out.on hb)
                        replace HBOx := Lib.hid (HBOx.out.on hb)
                        replace HBOu := Lib.hid (HBOu.out.on hb)
                        replace HBOz := Lib.hid (HBOz.out.on hb)
                        replace KW := Lib.hid (KW.out.trans (hb.mono KW.out.size))
                        clear hb
                        clear c0 c1 c2 c3 c4 c5 c6
                        go_wp2_with fail
                        refine (all_any bs _ (seeO x0) (addO z0) _ HBOz.out.2.1 HSET.out FITz.out.2.2.1).mono ?_
                        rintro e w7 ⟨rfl, hb⟩
                        rw [all_true HAL.out]
                        replace HSET := Lib.hid (HSET.out.on hb)
                        replace HBOx := Lib.hid (HBOx.out.on hb)
                        replace HBOu := Lib.hid (HBOu.out.on hb)
                        replace KW := Lib.hid (KW.out.trans (hb.mono KW.out.size))
                        clear hb
                        clear HAL HBOz
                        go_wp2
                        go_roundg (h.length - (z + 1))
                        case measure => have := HMz.out; omega
                        case rel => exact ⟨z + 1, by omega, by go_num, KW.out, HSET.out, HBOx.out, HBOu.out⟩
                  · clear HBOu
                    go_wp2
                    go_roundg (h.length - (u + 1))
                    case measure => have := HMu.out; omega
                    case rel => exact ⟨u + 1, by omega, by go_num, KW.out, HSET.out, HBOx.out⟩
          · clear HBOx HSET
            go_wp2
            go_roundg (h.length - (x + 1))
            case measure => have := HM.out; omega
            case rel => exact ⟨x + 1, by omega, by go_num, KW.out⟩
    · go_wp2
      go_ret
      exact ⟨rfl, KW.out⟩
set_option maxRecDepth 100000 in
set_option maxHeartbeats 16000000 in
theorem throughR_any (v : Value) (h : List Opn) (W : World) (hr : ReadsO W v h) (hs : SmallH h) (hyp : ∀ x u o, x < h.length → u < h.length → o < h.length → RdI h x → UpI h u → (∃ s ∈ addO (nth h u), s ∈ seeO (nth h x)) → rdO (nth h o) = true → earO (nth h o) (nth h u) = true → ∀ s ∈ seeO (nth h o), s ∈ seeO (nth h x)) : Calls Try.prog 60 #[v, .func (.func 56) #[] #[], .func (.func 57) #[] #[]] W (BoolMade W true) := by
  have HR := Lib.hid hr
  have HS := Lib.hid hs
  have HY := Lib.hid hyp
  obtain ⟨ao, cap, rfl, hl, hm, -, -⟩ := hr
  unfold maxLen at hm
  clear hs hyp
  go_enter Try.func60, Try.ntmps60
  go_wp2
  go_loopg [16] h.length (fun m i wr => ∃ x : Nat, m + x = h.length ∧ i = .int .i64 ((x : Nat) : Int) ∧ Below W.heap.size W wr)
  case atStart => exact ⟨0, by omega, rfl, Below.refl _ _⟩
  case round =>
    obtain ⟨x, hmx, rfl, hbel⟩ := hrel
    have HM := Lib.hid hmx
    have KW := Lib.hid hbel
    have hx : x ≤ h.length := by omega
    clear hmx hbel
    by_cases hxl : x < h.length
    · obtain ⟨bx, offx, capx, a4x, c4x, a5x, c5x, hv, _, _, hm4, hm5, hl4, hl5, hcell, r1, r2⟩ := HR.out.at2 hxl
      injection hv with e1 e2 e3
      subst e1
      have hxi : (x : Int) < h.length := by omega
      have hx0 : (0 : Int) ≤ (x : Int) := by omega
      obtain ⟨d0, d1, d2, d3, d4, d5⟩ := hcell wr KW.out
      have HNx := Lib.hid (And.intro r1 r2)
      have FITx := Lib.hid (And.intro (HS.out.2 _ (List.getElem_mem hxl)).1 (And.intro (HS.out.2 _ (List.getElem_mem hxl)).2.1 (And.intro (HS.out.2 _ (List.getElem_mem hxl)).2.2.1 (HS.out.2 _ (List.getElem_mem hxl)).2.2.2)))
      have HNXx : Hid (nth h x = h[x]) := Lib.hid (nth_eq hxl)
      have HXLx := Lib.hid (And.intro hxl trivial)
      clear e2 e3 hcell r1 r2 hm4 hm5 hl4 hl5
      generalize h[x] = x0 at *
      clear hxl
      have HBXx : Hid (Below wr.heap.size wr (wr.alloc (.cells #[.int .i64 (cliO x0), .int .i64 (kindO x0), .int .i64 (begO x0), .int .i64 (endO x0), .slice a4x (addO x0).length c4x, .slice a5x (seeO x0).length c5x] 36))) := Lib.hid ((Below.refl _ _).alloc (Nat.le_refl _) _)
      have HBOx : Hid (BoxO (wr.alloc (.cells #[.int .i64 (cliO x0), .int .i64 (kindO x0), .int .i64 (begO x0), .int .i64 (endO x0), .slice a4x (addO x0).length c4x, .slice a5x (seeO x0).length c5x] 36)) wr.heap.size x0 (.slice a4x (addO x0).length c4x) (.slice a5x (seeO x0).length c5x)) := Lib.hid ⟨Blk.new _ _ _, (HNx.out.1.keep KW.out).keep HBXx.out, (HNx.out.2.keep KW.out).keep HBXx.out⟩
      go_wp2_with fail
      refine (sreads_any _ x0 _ HBOx.out.at_).mono ?_
      rintro e w1 ⟨rfl, hb⟩
      replace KW := Lib.hid (KW.out.trans (HBXx.out.mono KW.out.size))
      replace HBOx := Lib.hid (HBOx.out.on hb)
      replace KW := Lib.hid (KW.out.trans (hb.mono KW.out.size))
      clear hb
      clear d0 d1 d2 d3 d4 d5 HBXx
      cases hrd : rdO x0 with
      | false =>
        clear hrd HBOx
        go_wp2
        go_roundg (h.length - (x + 1))
        case measure => have := HM.out; omega
        case rel => exact ⟨x + 1, by omega, by go_num, KW.out⟩
      | true =>
        have HRD : Hid (RdI h x) := Lib.hid (rdO_iff2 HNXx.out hrd)
        clear hrd
        obtain ⟨c0, c1, c2, c3, c4, c5, c6⟩ := blk6 HBOx.out.1
        go_wp2_with fail
        refine (setOf_any _ (seeO x0) _ HBOx.out.2.2 FITx.out.2.1 FITx.out.2.2.2).mono ?_
        rintro e w2 ⟨bs, rfl, hset, hb⟩
        have HSET := Lib.hid hset
        replace HBOx := Lib.hid (HBOx.out.on hb)
        replace KW := Lib.hid (KW.out.trans (hb.mono KW.out.size))
        clear hb
        clear c0 c1 c2 c3 c4 c5 c6
        clear hset
        generalize wr.heap.size = g8 at *
        go_wp2
        obtain ⟨G2, hG2⟩ : ∃ G, G = gk := ⟨_, rfl⟩
        subst hG2
        go_loopg [28] h.length (fun m i wr => ∃ u : Nat, m + u = h.length ∧ i = .int .i64 ((u : Nat) : Int) ∧ Below W.heap.size W wr ∧ SetM wr bs (seeO x0) ∧ BoxO wr g8 x0 (.slice a4x (addO x0).length c4x) (.slice a5x (seeO x0).length c5x))
        case atStart => exact ⟨0, by omega, rfl, KW.out, HSET.out, HBOx.out⟩
        case round =>
          clear KW HSET HBOx
          obtain ⟨u, hmu, rfl, hbel, hset, kHBOx⟩ := hrel
          have HMu := Lib.hid hmu
          have KW := Lib.hid hbel
          have HSET := Lib.hid hset
          have HBOx := Lib.hid kHBOx
          have hu : u ≤ h.length := by omega
          clear hmu hbel hset kHBOx
          by_cases hul : u < h.length
          · obtain ⟨bu, offu, capu, a4u, c4u, a5u, c5u, hv, _, _, hm4, hm5, hl4, hl5, hcell, r1, r2⟩ := HR.out.at2 hul
            injection hv with e1 e2 e3
            injection e1 with e1
            injection e1 with e1 e4
            subst e1 e4
            have hui : (u : Int) < h.length := by omega
            have hu0 : (0 : Int) ≤ (u : Int) := by omega
            obtain ⟨d0, d1, d2, d3, d4, d5⟩ := hcell wr KW.out
            have HNu := Lib.hid (And.intro r1 r2)
            have FITu := Lib.hid (And.intro (HS.out.2 _ (List.getElem_mem hul)).1 (And.intro (HS.out.2 _ (List.getElem_mem hul)).2.1 (And.intro (HS.out.2 _ (List.getElem_mem hul)).2.2.1 (HS.out.2 _ (List.getElem_mem hul)).2.2.2)))
            have HNXu : Hid (nth h u = h[u]) := Lib.hid (nth_eq hul)
            have HXLu := Lib.hid (And.intro hul trivial)
            clear e2 e3 hcell r1 r2 hm4 hm5 hl4 hl5
            generalize h[u] = u0 at *
            clear hul
            have HBXu : Hid (Below wr.heap.size wr (wr.alloc (.cells #[.int .i64 (cliO u0), .int .i64 (kindO u0), .int .i64 (begO u0), .int .i64 (endO u0), .slice a4u (addO u0).length c4u, .slice a5u (seeO u0).length c5u] 36))) := Lib.hid ((Below.refl _ _).alloc (Nat.le_refl _) _)
            have HBOu : Hid (BoxO (wr.alloc (.cells #[.int .i64 (cliO u0), .int .i64 (kindO u0), .int .i64 (begO u0), .int .i64 (endO u0), .slice a4u (addO u0).length c4u, .slice a5u (seeO u0).length c5u] 36)) wr.heap.size u0 (.slice a4u (addO u0).length c4u) (.slice a5u (seeO u0).length c5u)) := Lib.hid ⟨Blk.new _ _ _, (HNu.out.1.keep KW.out).keep HBXu.out, (HNu.out.2.keep KW.out).keep HBXu.out⟩
            replace HSET := Lib.hid (HSET.out.on HBXu.out)
            replace HBOx := Lib.hid (HBOx.out.on HBXu.out)
            go_wp2_with fail
            refine (supdates_any _ u0 _ HBOu.out.at_).mono ?_
            rintro e w3 ⟨rfl, hb⟩
            replace KW := Lib.hid (KW.out.trans (HBXu.out.mono KW.out.size))
            replace HSET := Lib.hid (HSET.out.on hb)
            replace HBOx := Lib.hid (HBOx.out.on hb)
            replace HBOu := Lib.hid (HBOu.out.on hb)
            replace KW := Lib.hid (KW.out.trans (hb.mono KW.out.size))
            clear hb
            clear d0 d1 d2 d3 d4 d5 HBXu
            cases hup : upO u0 with
            | false =>
              clear hup HBOu
              go_wp2
              go_roundg (h.length - (u + 1))
              case measure => have := HMu.out; omega
              case rel => exact ⟨u + 1, by omega, by go_num, KW.out, HSET.out, HBOx.out⟩
            | true =>
              have HUP : Hid (UpI h u) := Lib.hid (upO_iff2 HNXu.out hup)
              clear hup
              obtain ⟨c0, c1, c2, c3, c4, c5, c6⟩ := blk6 HBOu.out.1
              go_wp2_with fail
              refine (touch_any bs _ (seeO x0) (addO u0) _ HBOu.out.2.1 HSET.out FITu.out.2.2.1).mono ?_
              rintro e w3b ⟨rfl, hb⟩
              replace HSET := Lib.hid (HSET.out.on hb)
              replace HBOx := Lib.hid (HBOx.out.on hb)
              replace HBOu := Lib.hid (HBOu.out.on hb)
              replace KW := Lib.hid (KW.out.trans (hb.mono KW.out.size))
              clear hb
              clear c0 c1 c2 c3 c4 c5 c6
              cases hto : (addO u0).any fun s => decide (s ∈ seeO x0) with
              | false =>
                clear hto HBOu
                go_wp2
                go_roundg (h.length - (u + 1))
                case measure => have := HMu.out; omega
                case rel => exact ⟨u + 1, by omega, by go_num, KW.out, HSET.out, HBOx.out⟩
              | true =>
                have HTO : Hid (∃ s ∈ addO u0, s ∈ seeO x0) := Lib.hid (by
                  obtain ⟨s, h1, h2⟩ := List.any_eq_true.1 hto
                  exact ⟨s, h1, of_decide_eq_true h2⟩)
                clear hto
                generalize wr.heap.size = g11 at *
                go_wp2
                obtain ⟨G3, hG3⟩ : ∃ G, G = gk := ⟨_, rfl⟩
                subst hG3
                go_loopg [44] h.length (fun m i wr => ∃ z : Nat, m + z = h.length ∧ i = .int .i64 ((z : Nat) : Int) ∧ Below W.heap.size W wr ∧ SetM wr bs (seeO x0) ∧ BoxO wr g8 x0 (.slice a4x (addO x0).length c4x) (.slice a5x (seeO x0).length c5x) ∧ BoxO wr g11 u0 (.slice a4u (addO u0).length c4u) (.slice a5u (seeO u0).length c5u))
                case atStart => exact ⟨0, by omega, rfl, KW.out, HSET.out, HBOx.out, HBOu.out⟩
                case round =>
                  clear KW HSET HBOx HBOu
                  obtain ⟨z, hmz, rfl, hbel, hset, kHBOx, kHBOu⟩ := hrel
                  have HMz := Lib.hid hmz
                  have KW := Lib.hid hbel
                  have HSET := Lib.hid hset
                  have HBOx := Lib.hid kHBOx
                  have HBOu := Lib.hid kHBOu
                  have hz : z ≤ h.length := by omega
                  clear hmz hbel hset kHBOx kHBOu
                  by_cases hzl : z < h.length
                  · obtain ⟨bz, offz, capz, a4z, c4z, a5z, c5z, hv, _, _, hm4, hm5, hl4, hl5, hcell, r1, r2⟩ := HR.out.at2 hzl
                    injection hv with e1 e2 e3
                    injection e1 with e1
                    injection e1 with e1 e4
                    subst e1 e4
                    have hzi : (z : Int) < h.length := by omega
                    have hz0 : (0 : Int) ≤ (z : Int) := by omega
                    obtain ⟨d0, d1, d2, d3, d4, d5⟩ := hcell wr KW.out
                    have HNz := Lib.hid (And.intro r1 r2)
                    have FITz := Lib.hid (And.intro (HS.out.2 _ (List.getElem_mem hzl)).1 (And.intro (HS.out.2 _ (List.getElem_mem hzl)).2.1 (And.intro (HS.out.2 _ (List.getElem_mem hzl)).2.2.1 (HS.out.2 _ (List.getElem_mem hzl)).2.2.2)))
                    have HNXz : Hid (nth h z = h[z]) := Lib.hid (nth_eq hzl)
                    have HXLz := Lib.hid (And.intro hzl trivial)
                    clear e2 e3 hcell r1 r2 hm4 hm5 hl4 hl5
                    generalize h[z] = z0 at *
                    clear hzl
                    have HBXz : Hid (Below wr.heap.size wr (wr.alloc (.cells #[.int .i64 (cliO z0), .int .i64 (kindO z0), .int .i64 (begO z0), .int .i64 (endO z0), .slice a4z (addO z0).length c4z, .slice a5z (seeO z0).length c5z] 36))) := Lib.hid ((Below.refl _ _).alloc (Nat.le_refl _) _)
                    have HBOz : Hid (BoxO (wr.alloc (.cells #[.int .i64 (cliO z0), .int .i64 (kindO z0), .int .i64 (begO z0), .int .i64 (endO z0), .slice a4z (addO z0).length c4z, .slice a5z (seeO z0).length c5z] 36)) wr.heap.size z0 (.slice a4z (addO z0).length c4z) (.slice a5z (seeO z0).length c5z)) := Lib.hid ⟨Blk.new _ _ _, (HNz.out.1.keep KW.out).keep HBXz.out, (HNz.out.2.keep KW.out).keep HBXz.out⟩
                    replace HSET := Lib.hid (HSET.out.on HBXz.out)
                    replace HBOx := Lib.hid (HBOx.out.on HBXz.out)
                    replace HBOu := Lib.hid (HBOu.out.on HBXz.out)
                    go_wp2_with fail
                    refine (sreads_any _ z0 _ HBOz.out.at_).mono ?_
                    rintro e w4 ⟨rfl, hb⟩
                    replace KW := Lib.hid (KW.out.trans (HBXz.out.mono KW.out.size))
                    replace HSET := Lib.hid (HSET.out.on hb)
                    replace HBOx := Lib.hid (HBOx.out.on hb)
                    replace HBOu := Lib.hid (HBOu.out.on hb)
                    replace HBOz := Lib.hid (HBOz.out.on hb)
                    replace KW := Lib.hid (KW.out.trans (hb.mono KW.out.size))
                    clear hb
                    clear d0 d1 d2 d3 d4 d5 HBXz
                    cases hkd : rdO z0 with
                    | false =>
                      clear hkd HBOz
                      go_wp2
                      go_roundg (h.length - (z + 1))
                      case measure => have := HMz.out; omega
                      case rel => exact ⟨z + 1, by omega, by go_num, KW.out, HSET.out, HBOx.out, HBOu.out⟩
                    | true =>
                      obtain ⟨c0, c1, c2, c3, c4, c5, c6⟩ := blk6 HBOz.out.1
                      obtain ⟨f0, f1, f2, f3, f4, f5, f6⟩ := blk6 HBOu.out.1
                      go_wp2_with fail
                      refine (searlier_any _ _ z0 u0 _ HBOz.out.at_ HBOu.out.at_).mono ?_
                      rintro e w5 ⟨rfl, hb⟩
                      replace HSET := Lib.hid (HSET.out.on hb)
                      replace HBOx := Lib.hid (HBOx.out.on hb)
                      replace HBOu := Lib.hid (HBOu.out.on hb)
                      replace HBOz := Lib.hid (HBOz.out.on hb)
                      replace KW := Lib.hid (KW.out.trans (hb.mono KW.out.size))
                      clear hb
                      clear c0 c1 c2 c3 c4 c5 c6
                      clear f0 f1 f2 f3 f4 f5 f6
                      cases her : earO z0 u0 with
                      | false =>
                        clear hkd her HBOz
                        go_wp2
                        go_roundg (h.length - (z + 1))
                        case measure => have := HMz.out; omega
                        case rel => exact ⟨z + 1, by omega, by go_num, KW.out, HSET.out, HBOx.out, HBOu.out⟩
                      | true =>
                        have HAL : Hid (∀ s ∈ seeO z0, s ∈ seeO x0) := Lib.hid (by have h9 := HY.out x u z HXLx.out.1 HXLu.out.1 HXLz.out.1 HRD.out HUP.out; rw [HNXz.out, HNXu.out, HNXx.out] at h9; exact h9 HTO.out hkd her)
                        clear hkd her
                        obtain ⟨c0, c1, c2, c3, c4, c5, c6⟩ := blk6 HBOz.out.1
                        go_wp2_with fail
                        refine (ssees_any z0 _ _ _ _ _ _ _).mono ?_
                        rintro e w6 ⟨rfl, hb⟩
                        replace HSET := Lib.hid (HSET.out.on hb)
                        replace HBOx := Lib.hid (HBOx.out.on hb)
                        replace HBOu := Lib.hid (HBOu.out.on hb)
                        replace HBOz := Lib.hid (HBOz.out.on hb)
                        replace KW := Lib.hid (KW.out.trans (hb.mono KW.out.size))
                        clear hb
                        clear c0 c1 c2 c3 c4 c5 c6
                        go_wp2_with fail
                        refine (all_any bs _ (seeO x0) (seeO z0) _ HBOz.out.2.2 HSET.out FITz.out.2.2.2).mono ?_
                        rintro e w7 ⟨rfl, hb⟩
                        rw [all_true HAL.out]
                        replace HSET := Lib.hid (HSET.out.on hb)
                        replace HBOx := Lib.hid (HBOx.out.on hb)
                        replace HBOu := Lib.hid (HBOu.out.on hb)
                        replace KW := Lib.hid (KW.out.trans (hb.mono KW.out.size))
                        clear hb
                        clear HAL HBOz
                        go_wp2
                        go_roundg (h.length - (z + 1))
                        case measure => have := HMz.out; omega
                        case rel => exact ⟨z + 1, by omega, by go_num, KW.out, HSET.out, HBOx.out, HBOu.out⟩
                  · clear HBOu
                    go_wp2
                    go_roundg (h.length - (u + 1))
                    case measure => have := HMu.out; omega
                    case rel => exact ⟨u + 1, by omega, by go_num, KW.out, HSET.out, HBOx.out⟩
          · clear HBOx HSET
            go_wp2
            go_roundg (h.length - (x + 1))
            case measure => have := HM.out; omega
            case rel => exact ⟨x + 1, by omega, by go_num, KW.out⟩
    · go_wp2
      go_ret
      exact ⟨rfl, KW.out⟩
section
variable {h : List Opn}
theorem ses1 (hn : NoReason h) : ∀ x o, x < h.length → o < h.length → RdI h x → rdO (nth h o) = true → earO (nth h o) (nth h x) = true → ∀ s ∈ seeO (nth h o), s ∈ seeO (nth h x) := fun x o hx ho rx ro he => hn.back o x ho hx (of_decide_eq_true ro) rx (ear_pr he)
theorem ses2 (hn : NoReason h) : ∀ x o, x < h.length → o < h.length → RdI h x → upO (nth h o) = true → earO (nth h o) (nth h x) = true → ∀ s ∈ addO (nth h o), s ∈ seeO (nth h x) := fun x o hx ho rx ro he => hn.late o x ho hx (of_decide_eq_true ro) rx (ear_pr he)
theorem ses3 (hn : NoReason h) : ∀ x u o, x < h.length → u < h.length → o < h.length → RdI h x → UpI h u → (∃ s ∈ addO (nth h u), s ∈ seeO (nth h x)) → upO (nth h o) = true → earO (nth h o) (nth h u) = true → ∀ s ∈ addO (nth h o), s ∈ seeO (nth h x) := fun x u o hx hu ho rx uu ht ro he =>
  hn.swapped o u x ho hu hx (of_decide_eq_true ro) uu rx (ear_pr he) (hn.whole x u hx hu rx uu ht)
theorem ses4 (hn : NoReason h) : ∀ x u o, x < h.length → u < h.length → o < h.length → RdI h x → UpI h u → (∃ s ∈ addO (nth h u), s ∈ seeO (nth h x)) → rdO (nth h o) = true → earO (nth h o) (nth h u) = true → ∀ s ∈ seeO (nth h o), s ∈ seeO (nth h x) := fun x u o hx hu ho rx uu ht ro he => by
  have r2 : RdI h o := of_decide_eq_true ro
  rcases hn.chain o x ho hx r2 rx with h1 | h1
  · exact h1
  · have hs := hn.whole x u hx hu rx uu ht
    exact absurd (fun s hs2 => h1 s (hs s hs2)) (hn.early o u ho hu r2 uu (ear_pr he))
end
theorem monR_any (v : Value) (h : List Opn) (W : World) (hr : ReadsO W v h) (hs : SmallH h) (hn : NoReason h) : Calls Try.prog 20 #[v] W (BoolMade W true) := by
  have HK := Lib.hid (directR_any v h W hr hs (ses1 hn))
  obtain ⟨ao, cap, rfl, -, -, -, -⟩ := hr
  clear hs hn
  go_enter Try.func20, Try.ntmps20
  go_wp2_with fail
  refine HK.out.mono ?_
  rintro e w1 ⟨rfl, hb⟩
  have HB := Lib.hid hb
  clear hb HK
  go_wp2
  go_ret
  exact ⟨rfl, HB.out⟩
theorem ryw_any (v : Value) (h : List Opn) (W : World) (hr : ReadsO W v h) (hs : SmallH h) (hn : NoReason h) : Calls Try.prog 21 #[v] W (BoolMade W true) := by
  have HK := Lib.hid (directU_any v h W hr hs (ses2 hn))
  obtain ⟨ao, cap, rfl, -, -, -, -⟩ := hr
  clear hs hn
  go_enter Try.func21, Try.ntmps21
  go_wp2_with fail
  refine HK.out.mono ?_
  rintro e w1 ⟨rfl, hb⟩
  have HB := Lib.hid hb
  clear hb HK
  go_wp2
  go_ret
  exact ⟨rfl, HB.out⟩
theorem monW_any (v : Value) (h : List Opn) (W : World) (hr : ReadsO W v h) (hs : SmallH h) (hn : NoReason h) : Calls Try.prog 22 #[v] W (BoolMade W true) := by
  have HK := Lib.hid (throughU_any v h W hr hs (ses3 hn))
  obtain ⟨ao, cap, rfl, -, -, -, -⟩ := hr
  clear hs hn
  go_enter Try.func22, Try.ntmps22
  go_wp2_with fail
  refine HK.out.mono ?_
  rintro e w1 ⟨rfl, hb⟩
  have HB := Lib.hid hb
  clear hb HK
  go_wp2
  go_ret
  exact ⟨rfl, HB.out⟩
theorem wfr_any (v : Value) (h : List Opn) (W : World) (hr : ReadsO W v h) (hs : SmallH h) (hn : NoReason h) : Calls Try.prog 23 #[v] W (BoolMade W true) := by
  have HK := Lib.hid (throughR_any v h W hr hs (ses4 hn))
  obtain ⟨ao, cap, rfl, -, -, -, -⟩ := hr
  clear hs hn
  go_enter Try.func23, Try.ntmps23
  go_wp2_with fail
  refine HK.out.mono ?_
  rintro e w1 ⟨rfl, hb⟩
  have HB := Lib.hid hb
  clear hb HK
  go_wp2
  go_ret
  exact ⟨rfl, HB.out⟩
end Go.Proofs.Ytjijlhjggpibjaa
