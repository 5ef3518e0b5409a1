/-
  Chapter 29: the reference's Layer and Reaches.
-/
import Derived.Test.YtfdicndmebhmdaaNb
import Derived.Test.YtfdicndmebhmdaaPg
namespace Go.Proofs.Ytfdicndmebhmdaa
open Go.RowKit
set_option maxRecDepth 100000 in
set_option maxHeartbeats 8000000 in
theorem rlayer_any (t : List Ev) (hn : t.length ≤ 1000) : ∀ (i : Nat) (tv : Value) (W : World), i < t.length → ReadsE W tv t → Calls Try.prog 45 #[tv, .int .i64 i] W (fun e w' => e = .returned (.int .i64 ((ly t i + 1 : Nat) : Int)) ∧ Below W.heap.size W w') := by
  intro i
  induction i using Nat.strongRecOn with
  | _ i ih =>
    intro tv W hit hr
    have HR := Lib.hid hr
    have IH := Lib.hid ih
    have HIT := Lib.hid (And.intro hit trivial)
    obtain ⟨ao, cap, rfl, hl, hm, -, -⟩ := hr
    unfold maxLen at hm
    clear ih
    have hii : (i : Int) < t.length := by omega
    have hi0 : (0 : Int) ≤ (i : Int) := by omega
    clear hit
    go_enter Try.func45, Try.ntmps45
    go_wp2
    go_loopg [5, 6] i (fun m nx kx wr => ∃ k : Nat, m + k = i ∧ kx = .int .i64 k ∧ nx = .int .i64 ((lyQ t i k : Nat) : Int) ∧ Below W.heap.size W wr)
    case atStart => exact ⟨0, by omega, rfl, rfl, Below.refl _ _⟩
    case round =>
      rename World => w1
      obtain ⟨k, hmk, rfl, rfl, hb1⟩ := hrel
      have HM := Lib.hid hmk
      have KR := Lib.hid hb1
      have hk : k ≤ i := by omega
      have hqle : lyQ t i k ≤ k := lyQ_le t i k hk fun j _ => ly_le t j
      have hin : i ≤ 1000 := by have := HIT.out.1; omega
      clear hmk hb1
      by_cases hki : k < i
      · have hkI : (k : Int) < (i : Int) := by omega
        have hk0 : (0 : Int) ≤ (k : Int) := by omega
        have hkt : (k : Int) < t.length := by omega
        have HKI := Lib.hid (And.intro hki trivial)
        have hkl : k < t.length := by have := HIT.out.1; omega
        have hlt := HIT.out.1
        have HYES := Lib.hid (@lyQ_yes t i k)
        have HNO := Lib.hid (@lyQ_no t i k)
        have HLK := Lib.hid (ly_le t k)
        have HKL := Lib.hid (And.intro hkl trivial)
        obtain ⟨b, off, cap1, s1, c1, hv, hcell, r1⟩ := HR.out.at2 hkl
        injection hv with e1 e2 e3
        subst e1
        obtain ⟨b', off', cap2, s2, c2, hv, hcell', r2⟩ := HR.out.at2 hlt
        injection hv with e1 e2' e3'
        injection e1 with e1
        injection e1 with e1 e4
        subst e1 e4
        have hdi : depI t k i = depE t[k] t[i] := by unfold depI; rw [nthE_eq hkl, nthE_eq hlt]
        have HX := Lib.hid (And.intro hcell r1)
        have HY := Lib.hid (And.intro hcell' r2)
        clear e2 e3 e2' e3' hcell hcell' r1 r2
        generalize t[k] = x at *
        generalize t[i] = y at *
        clear hkl hlt hki
        by_cases hd : depE x y = true
        · have HD := Lib.hid hd
          have HDI := Lib.hid (hdi.trans hd)
          clear hd hdi
          go_wp2_with fail
          refine region_left [.is (.slice (some ⟨b, off, none⟩) t.length cap), .is (.int .i64 (k : Int)), .is (.pointer (some ⟨b, off + k * 2, none⟩)), .is (.agg #[.int .i64 x.1, .slice s1 x.2.length c1]), .is (.slice (some ⟨b, off, none⟩) t.length cap), .is (.int .i64 (i : Int)), .is (.pointer (some ⟨b, off + i * 2, none⟩)), .is (.agg #[.int .i64 y.1, .slice s2 y.2.length c2]), .is (.bool true)] (by kernel_rfl) rfl (by kernel_rfl) (by kernel_rfl) (.cons ?y0 (.cons ?y1 (.cons ?y2 (.cons ?y3 (.cons ?y4 (.cons ?y5 (.cons ?y6 (.cons ?y7 (.cons ?y8 .nil))))))))) ?yfin
          case y0 =>
            intro wq hbw st  K hK
            have KQ := KR.out.trans (hbw.mono KR.out.size)
            simp only [Act.put, List.setIfInBounds_toArray, List.set_cons_zero, List.set_cons_succ] at hK ⊢
            unfold opStep
            rw [if_pos (by rfl)]
            go_simp
            exact hK.out _ _ (Below.refl _ _) rfl _ rfl
          case y1 =>
            intro wq hbw st  K hK
            have KQ := KR.out.trans (hbw.mono KR.out.size)
            simp only [Act.put, List.setIfInBounds_toArray, List.set_cons_zero, List.set_cons_succ] at hK ⊢
            unfold opStep
            rw [if_pos (by rfl)]
            go_simp
            exact hK.out _ _ (Below.refl _ _) rfl _ rfl
          case y2 =>
            intro wq hbw st  K hK
            have KQ := KR.out.trans (hbw.mono KR.out.size)
            simp only [Act.put, List.setIfInBounds_toArray, List.set_cons_zero, List.set_cons_succ] at hK ⊢
            unfold opStep
            rw [if_pos (by rfl)]
            go_simp
            exact hK.out _ _ (Below.refl _ _) rfl _ rfl
          case y3 =>
            intro wq hbw st  K hK
            have KQ := KR.out.trans (hbw.mono KR.out.size)
            simp only [Act.put, List.setIfInBounds_toArray, List.set_cons_zero, List.set_cons_succ] at hK ⊢
            unfold opStep
            rw [if_pos (by rfl)]
            have dd := Lib.hid (HX.out.1 _ KQ)
            have d0 := dd.out.1
            have d1 := dd.out.2
            go_simp
            exact hK.out _ _ (Below.refl _ _) rfl _ rfl
          case y4 =>
            intro wq hbw st  K hK
            have KQ := KR.out.trans (hbw.mono KR.out.size)
            simp only [Act.put, List.setIfInBounds_toArray, List.set_cons_zero, List.set_cons_succ] at hK ⊢
            unfold opStep
            rw [if_pos (by rfl)]
            go_simp
            exact hK.out _ _ (Below.refl _ _) rfl _ rfl
          case y5 =>
            intro wq hbw st  K hK
            have KQ := KR.out.trans (hbw.mono KR.out.size)
            simp only [Act.put, List.setIfInBounds_toArray, List.set_cons_zero, List.set_cons_succ] at hK ⊢
            unfold opStep
            rw [if_pos (by rfl)]
            go_simp
            exact hK.out _ _ (Below.refl _ _) rfl _ rfl
          case y6 =>
            intro wq hbw st  K hK
            have KQ := KR.out.trans (hbw.mono KR.out.size)
            simp only [Act.put, List.setIfInBounds_toArray, List.set_cons_zero, List.set_cons_succ] at hK ⊢
            unfold opStep
            rw [if_pos (by rfl)]
            go_simp
            exact hK.out _ _ (Below.refl _ _) rfl _ rfl
          case y7 =>
            intro wq hbw st  K hK
            have KQ := KR.out.trans (hbw.mono KR.out.size)
            simp only [Act.put, List.setIfInBounds_toArray, List.set_cons_zero, List.set_cons_succ] at hK ⊢
            unfold opStep
            rw [if_pos (by rfl)]
            have dd := Lib.hid (HY.out.1 _ KQ)
            have d0 := dd.out.1
            have d1 := dd.out.2
            go_simp
            exact hK.out _ _ (Below.refl _ _) rfl _ rfl
          case y8 =>
            intro wq hbw st  K hK
            have KQ := KR.out.trans (hbw.mono KR.out.size)
            simp only [Act.put, List.setIfInBounds_toArray, List.set_cons_zero, List.set_cons_succ] at hK ⊢
            unfold opStep
            rw [if_pos (by rfl)]
            go_simp
            have hpc := rdep_any _ _ x y wq ⟨_, rfl, HX.out.2.keep KQ⟩ ⟨_, rfl, HY.out.2.keep KQ⟩
            rw [HD.out] at hpc
            refine hpc.mono ?_
            rintro e wz ⟨rfl, hbz⟩
            go_simp
            exact hK.out _ _ hbz rfl _ rfl
          case yfin =>
            intro wq hbw
            try simp only [FinAll]
            simp only [Act.put, List.setIfInBounds_toArray, List.set_cons_zero, List.set_cons_succ]
            have K2 := Lib.hid (KR.out.trans (hbw.mono KR.out.size))
            clear hbw KR HX HY HD
            have HRC := Lib.hid (IH.out k HKI.out.1 _ wq HKL.out.1 (HR.out.on K2.out))
            have HL := Lib.hid (HYES.out HDI.out)
            have hlk := HLK.out
            clear HYES HNO
            generalize lyQ t i k = a1 at *
            generalize ly t k = a2 at *
            have hmx : max (a1 : Int) ((a2 + 1 : Nat) : Int) = ((max a1 (a2 + 1) : Nat) : Int) := by omega
            go_wp2_with fail
            refine HRC.out.mono ?_
            rintro e w3 ⟨rfl, hb3⟩
            have K3 := Lib.hid (K2.out.trans (hb3.mono K2.out.size))
            clear hb3 K2 HRC
            go_wp2
            try simp only [hmx]
            go_roundg (i - (k + 1))
            case measure => have := HM.out; have := HKI.out.1; omega
            case rel => exact ⟨k + 1, by have := HKI.out.1; omega, by go_num, (by rw [HL.out]; first | rfl | exact congrArg (Value.int .i64) hmx), K3.out⟩
        · rw [Bool.not_eq_true] at hd
          have HD := Lib.hid hd
          have HDI := Lib.hid (hdi.trans hd)
          clear hd hdi
          go_wp2_with fail
          refine region_left [.is (.slice (some ⟨b, off, none⟩) t.length cap), .is (.int .i64 (k : Int)), .is (.pointer (some ⟨b, off + k * 2, none⟩)), .is (.agg #[.int .i64 x.1, .slice s1 x.2.length c1]), .is (.slice (some ⟨b, off, none⟩) t.length cap), .is (.int .i64 (i : Int)), .is (.pointer (some ⟨b, off + i * 2, none⟩)), .is (.agg #[.int .i64 y.1, .slice s2 y.2.length c2]), .is (.bool false)] (by kernel_rfl) rfl (by kernel_rfl) (by kernel_rfl) (.cons ?n0 (.cons ?n1 (.cons ?n2 (.cons ?n3 (.cons ?n4 (.cons ?n5 (.cons ?n6 (.cons ?n7 (.cons ?n8 .nil))))))))) ?nfin
          case n0 =>
            intro wq hbw st  K hK
            have KQ := KR.out.trans (hbw.mono KR.out.size)
            simp only [Act.put, List.setIfInBounds_toArray, List.set_cons_zero, List.set_cons_succ] at hK ⊢
            unfold opStep
            rw [if_pos (by rfl)]
            go_simp
            exact hK.out _ _ (Below.refl _ _) rfl _ rfl
          case n1 =>
            intro wq hbw st  K hK
            have KQ := KR.out.trans (hbw.mono KR.out.size)
            simp only [Act.put, List.setIfInBounds_toArray, List.set_cons_zero, List.set_cons_succ] at hK ⊢
            unfold opStep
            rw [if_pos (by rfl)]
            go_simp
            exact hK.out _ _ (Below.refl _ _) rfl _ rfl
          case n2 =>
            intro wq hbw st  K hK
            have KQ := KR.out.trans (hbw.mono KR.out.size)
            simp only [Act.put, List.setIfInBounds_toArray, List.set_cons_zero, List.set_cons_succ] at hK ⊢
            unfold opStep
            rw [if_pos (by rfl)]
            go_simp
            exact hK.out _ _ (Below.refl _ _) rfl _ rfl
          case n3 =>
            intro wq hbw st  K hK
            have KQ := KR.out.trans (hbw.mono KR.out.size)
            simp only [Act.put, List.setIfInBounds_toArray, List.set_cons_zero, List.set_cons_succ] at hK ⊢
            unfold opStep
            rw [if_pos (by rfl)]
            have dd := Lib.hid (HX.out.1 _ KQ)
            have d0 := dd.out.1
            have d1 := dd.out.2
            go_simp
            exact hK.out _ _ (Below.refl _ _) rfl _ rfl
          case n4 =>
            intro wq hbw st  K hK
            have KQ := KR.out.trans (hbw.mono KR.out.size)
            simp only [Act.put, List.setIfInBounds_toArray, List.set_cons_zero, List.set_cons_succ] at hK ⊢
            unfold opStep
            rw [if_pos (by rfl)]
            go_simp
            exact hK.out _ _ (Below.refl _ _) rfl _ rfl
          case n5 =>
            intro wq hbw st  K hK
            have KQ := KR.out.trans (hbw.mono KR.out.size)
            simp only [Act.put, List.setIfInBounds_toArray, List.set_cons_zero, List.set_cons_succ] at hK ⊢
            unfold opStep
            rw [if_pos (by rfl)]
            go_simp
            exact hK.out _ _ (Below.refl _ _) rfl _ rfl
          case n6 =>
            intro wq hbw st  K hK
            have KQ := KR.out.trans (hbw.mono KR.out.size)
            simp only [Act.put, List.setIfInBounds_toArray, List.set_cons_zero, List.set_cons_succ] at hK ⊢
            unfold opStep
            rw [if_pos (by rfl)]
            go_simp
            exact hK.out _ _ (Below.refl _ _) rfl _ rfl
          case n7 =>
            intro wq hbw st  K hK
            have KQ := KR.out.trans (hbw.mono KR.out.size)
            simp only [Act.put, List.setIfInBounds_toArray, List.set_cons_zero, List.set_cons_succ] at hK ⊢
            unfold opStep
            rw [if_pos (by rfl)]
            have dd := Lib.hid (HY.out.1 _ KQ)
            have d0 := dd.out.1
            have d1 := dd.out.2
            go_simp
            exact hK.out _ _ (Below.refl _ _) rfl _ rfl
          case n8 =>
            intro wq hbw st  K hK
            have KQ := KR.out.trans (hbw.mono KR.out.size)
            simp only [Act.put, List.setIfInBounds_toArray, List.set_cons_zero, List.set_cons_succ] at hK ⊢
            unfold opStep
            rw [if_pos (by rfl)]
            go_simp
            have hpc := rdep_any _ _ x y wq ⟨_, rfl, HX.out.2.keep KQ⟩ ⟨_, rfl, HY.out.2.keep KQ⟩
            rw [HD.out] at hpc
            refine hpc.mono ?_
            rintro e wz ⟨rfl, hbz⟩
            go_simp
            exact hK.out _ _ hbz rfl _ rfl
          case nfin =>
            intro wq hbw
            try simp only [FinAll]
            simp only [Act.put, List.setIfInBounds_toArray, List.set_cons_zero, List.set_cons_succ]
            have K2 := Lib.hid (KR.out.trans (hbw.mono KR.out.size))
            clear hbw KR HX HY HD
            have HL := Lib.hid (HNO.out HDI.out)
            clear HYES HNO
            go_wp2
            go_roundg (i - (k + 1))
            case measure => have := HM.out; have := HKI.out.1; omega
            case rel => exact ⟨k + 1, by have := HKI.out.1; omega, by go_num, by rw [HL.out], K2.out⟩
      · have e : k = i := by omega
        subst e
        have hkk : ¬ (k : Int) < (k : Int) := by omega
        have HL := Lib.hid (ly_eq t k)
        have ew : IntKind.i64.wrap ((lyQ t k k : Int) + 1) = ((lyQ t k k + 1 : Nat) : Int) := by rw [IntWalk.i64_in _ (by omega)]; rfl
        generalize lyQ t k k = a1 at *
        go_wp2
        go_ret
        exact ⟨by rw [HL.out]; first | rfl | exact congrArg (fun z => Exit.returned (Value.int .i64 z)) ew, KR.out⟩
set_option maxRecDepth 100000 in
set_option maxHeartbeats 8000000 in
theorem rreach_any (t : List Ev) (hn : t.length ≤ 1000) (j : Nat) (hjt : j < t.length) : ∀ (n i : Nat) (tv : Value) (W : World), t.length - i = n → i < t.length → ReadsE W tv t → Calls Try.prog 28 #[tv, .int .i64 i, .int .i64 j] W (BoolMade W (rch t i j)) := by
  intro n
  induction n using Nat.strongRecOn with
  | _ n ih =>
    intro i tv W hin hit hr
    have HR := Lib.hid hr
    have IH := Lib.hid ih
    have HIT := Lib.hid (And.intro hit (And.intro hjt hin))
    obtain ⟨ao, cap, rfl, hl, hm, -, -⟩ := hr
    unfold maxLen at hm
    clear ih hin
    have hii : (i : Int) < t.length := by omega
    have hi0 : (0 : Int) ≤ (i : Int) := by omega
    have hjj : (j : Int) < t.length := by omega
    have hj0 : (0 : Int) ≤ (j : Int) := by omega
    by_cases hij : i < j
    · have hij2 : ¬ (j : Int) ≤ (i : Int) := by omega
      have HIJ := Lib.hid (And.intro hij trivial)
      have hlt := hit
      have hkl := hjt
      have KW0 := Lib.hid (Below.refl W.heap.size W)
      have HDEP := Lib.hid (@rch_dep t i j hij)
      have HND := Lib.hid (@rch_no t i j)
      go_enter Try.func28, Try.ntmps28
      have KR := Lib.hid (Below.refl W.heap.size W)
      obtain ⟨b, off, cap1, s1, c1, hv, hcell, r1⟩ := HR.out.at2 hlt
      injection hv with e1 e2 e3
      subst e1
      obtain ⟨b', off', cap2, s2, c2, hv, hcell', r2⟩ := HR.out.at2 hkl
      injection hv with e1 e2' e3'
      injection e1 with e1
      injection e1 with e1 e4
      subst e1 e4
      have hdi : depI t i j = depE t[i] t[j] := by unfold depI; rw [nthE_eq hlt, nthE_eq hkl]
      have HX := Lib.hid (And.intro hcell r1)
      have HY := Lib.hid (And.intro hcell' r2)
      clear e2 e3 e2' e3' hcell hcell' r1 r2
      generalize t[i] = x at *
      generalize t[j] = y at *
      clear hkl hlt hij hit
      by_cases hd : depE x y = true
      · have HD := Lib.hid hd
        have HDI := Lib.hid (hdi.trans hd)
        clear hd hdi
        go_wp2_with fail
        refine region_left [.is (.slice (some ⟨b, off, none⟩) t.length cap), .is (.int .i64 (i : Int)), .is (.pointer (some ⟨b, off + i * 2, none⟩)), .is (.agg #[.int .i64 x.1, .slice s1 x.2.length c1]), .is (.slice (some ⟨b, off, none⟩) t.length cap), .is (.int .i64 (j : Int)), .is (.pointer (some ⟨b, off + j * 2, none⟩)), .is (.agg #[.int .i64 y.1, .slice s2 y.2.length c2]), .is (.bool true)] (by kernel_rfl) rfl (by kernel_rfl) (by kernel_rfl) (.cons ?y0 (.cons ?y1 (.cons ?y2 (.cons ?y3 (.cons ?y4 (.cons ?y5 (.cons ?y6 (.cons ?y7 (.cons ?y8 .nil))))))))) ?yfin
        case y0 =>
          intro wq hbw st  K hK
          have KQ := KR.out.trans (hbw.mono KR.out.size)
          simp only [Act.put, List.setIfInBounds_toArray, List.set_cons_zero, List.set_cons_succ] at hK ⊢
          unfold opStep
          rw [if_pos (by rfl)]
          go_simp
          exact hK.out _ _ (Below.refl _ _) rfl _ rfl
        case y1 =>
          intro wq hbw st  K hK
          have KQ := KR.out.trans (hbw.mono KR.out.size)
          simp only [Act.put, List.setIfInBounds_toArray, List.set_cons_zero, List.set_cons_succ] at hK ⊢
          unfold opStep
          rw [if_pos (by rfl)]
          go_simp
          exact hK.out _ _ (Below.refl _ _) rfl _ rfl
        case y2 =>
          intro wq hbw st  K hK
          have KQ := KR.out.trans (hbw.mono KR.out.size)
          simp only [Act.put, List.setIfInBounds_toArray, List.set_cons_zero, List.set_cons_succ] at hK ⊢
          unfold opStep
          rw [if_pos (by rfl)]
          go_simp
          exact hK.out _ _ (Below.refl _ _) rfl _ rfl
        case y3 =>
          intro wq hbw st  K hK
          have KQ := KR.out.trans (hbw.mono KR.out.size)
          simp only [Act.put, List.setIfInBounds_toArray, List.set_cons_zero, List.set_cons_succ] at hK ⊢
          unfold opStep
          rw [if_pos (by rfl)]
          have dd := Lib.hid (HX.out.1 _ KQ)
          have d0 := dd.out.1
          have d1 := dd.out.2
          go_simp
          exact hK.out _ _ (Below.refl _ _) rfl _ rfl
        case y4 =>
          intro wq hbw st  K hK
          have KQ := KR.out.trans (hbw.mono KR.out.size)
          simp only [Act.put, List.setIfInBounds_toArray, List.set_cons_zero, List.set_cons_succ] at hK ⊢
          unfold opStep
          rw [if_pos (by rfl)]
          go_simp
          exact hK.out _ _ (Below.refl _ _) rfl _ rfl
        case y5 =>
          intro wq hbw st  K hK
          have KQ := KR.out.trans (hbw.mono KR.out.size)
          simp only [Act.put, List.setIfInBounds_toArray, List.set_cons_zero, List.set_cons_succ] at hK ⊢
          unfold opStep
          rw [if_pos (by rfl)]
          go_simp
          exact hK.out _ _ (Below.refl _ _) rfl _ rfl
        case y6 =>
          intro wq hbw st  K hK
          have KQ := KR.out.trans (hbw.mono KR.out.size)
          simp only [Act.put, List.setIfInBounds_toArray, List.set_cons_zero, List.set_cons_succ] at hK ⊢
          unfold opStep
          rw [if_pos (by rfl)]
          go_simp
          exact hK.out _ _ (Below.refl _ _) rfl _ rfl
        case y7 =>
          intro wq hbw st  K hK
          have KQ := KR.out.trans (hbw.mono KR.out.size)
          simp only [Act.put, List.setIfInBounds_toArray, List.set_cons_zero, List.set_cons_succ] at hK ⊢
          unfold opStep
          rw [if_pos (by rfl)]
          have dd := Lib.hid (HY.out.1 _ KQ)
          have d0 := dd.out.1
          have d1 := dd.out.2
          go_simp
          exact hK.out _ _ (Below.refl _ _) rfl _ rfl
        case y8 =>
          intro wq hbw st  K hK
          have KQ := KR.out.trans (hbw.mono KR.out.size)
          simp only [Act.put, List.setIfInBounds_toArray, List.set_cons_zero, List.set_cons_succ] at hK ⊢
          unfold opStep
          rw [if_pos (by rfl)]
          go_simp
          have hpc := rdep_any _ _ x y wq ⟨_, rfl, HX.out.2.keep KQ⟩ ⟨_, rfl, HY.out.2.keep KQ⟩
          rw [HD.out] at hpc
          refine hpc.mono ?_
          rintro e wz ⟨rfl, hbz⟩
          go_simp
          exact hK.out _ _ hbz rfl _ rfl
        case yfin =>
          intro wq hbw
          try simp only [FinAll]
          simp only [Act.put, List.setIfInBounds_toArray, List.set_cons_zero, List.set_cons_succ]
          have K2 := Lib.hid (KR.out.trans (hbw.mono KR.out.size))
          clear hbw KR HX HY HD
          have HRES := Lib.hid (HDEP.out HDI.out)
          go_wp2
          go_ret
          exact ⟨by rw [HRES.out]; rfl, K2.out⟩
      · rw [Bool.not_eq_true] at hd
        have HD := Lib.hid hd
        have HDI := Lib.hid (hdi.trans hd)
        clear hd hdi
        go_wp2_with fail
        refine region_left [.is (.slice (some ⟨b, off, none⟩) t.length cap), .is (.int .i64 (i : Int)), .is (.pointer (some ⟨b, off + i * 2, none⟩)), .is (.agg #[.int .i64 x.1, .slice s1 x.2.length c1]), .is (.slice (some ⟨b, off, none⟩) t.length cap), .is (.int .i64 (j : Int)), .is (.pointer (some ⟨b, off + j * 2, none⟩)), .is (.agg #[.int .i64 y.1, .slice s2 y.2.length c2]), .is (.bool false)] (by kernel_rfl) rfl (by kernel_rfl) (by kernel_rfl) (.cons ?n0 (.cons ?n1 (.cons ?n2 (.cons ?n3 (.cons ?n4 (.cons ?n5 (.cons ?n6 (.cons ?n7 (.cons ?n8 .nil))))))))) ?nfin
        case n0 =>
          intro wq hbw st  K hK
          have KQ := KR.out.trans (hbw.mono KR.out.size)
          simp only [Act.put, List.setIfInBounds_toArray, List.set_cons_zero, List.set_cons_succ] at hK ⊢
          unfold opStep
          rw [if_pos (by rfl)]
          go_simp
          exact hK.out _ _ (Below.refl _ _) rfl _ rfl
        case n1 =>
          intro wq hbw st  K hK
          have KQ := KR.out.trans (hbw.mono KR.out.size)
          simp only [Act.put, List.setIfInBounds_toArray, List.set_cons_zero, List.set_cons_succ] at hK ⊢
          unfold opStep
          rw [if_pos (by rfl)]
          go_simp
          exact hK.out _ _ (Below.refl _ _) rfl _ rfl
        case n2 =>
          intro wq hbw st  K hK
          have KQ := KR.out.trans (hbw.mono KR.out.size)
          simp only [Act.put, List.setIfInBounds_toArray, List.set_cons_zero, List.set_cons_succ] at hK ⊢
          unfold opStep
          rw [if_pos (by rfl)]
          go_simp
          exact hK.out _ _ (Below.refl _ _) rfl _ rfl
        case n3 =>
          intro wq hbw st  K hK
          have KQ := KR.out.trans (hbw.mono KR.out.size)
          simp only [Act.put, List.setIfInBounds_toArray, List.set_cons_zero, List.set_cons_succ] at hK ⊢
          unfold opStep
          rw [if_pos (by rfl)]
          have dd := Lib.hid (HX.out.1 _ KQ)
          have d0 := dd.out.1
          have d1 := dd.out.2
          go_simp
          exact hK.out _ _ (Below.refl _ _) rfl _ rfl
        case n4 =>
          intro wq hbw st  K hK
          have KQ := KR.out.trans (hbw.mono KR.out.size)
          simp only [Act.put, List.setIfInBounds_toArray, List.set_cons_zero, List.set_cons_succ] at hK ⊢
          unfold opStep
          rw [if_pos (by rfl)]
          go_simp
          exact hK.out _ _ (Below.refl _ _) rfl _ rfl
        case n5 =>
          intro wq hbw st  K hK
          have KQ := KR.out.trans (hbw.mono KR.out.size)
          simp only [Act.put, List.setIfInBounds_toArray, List.set_cons_zero, List.set_cons_succ] at hK ⊢
          unfold opStep
          rw [if_pos (by rfl)]
          go_simp
          exact hK.out _ _ (Below.refl _ _) rfl _ rfl
        case n6 =>
          intro wq hbw st  K hK
          have KQ := KR.out.trans (hbw.mono KR.out.size)
          simp only [Act.put, List.setIfInBounds_toArray, List.set_cons_zero, List.set_cons_succ] at hK ⊢
          unfold opStep
          rw [if_pos (by rfl)]
          go_simp
          exact hK.out _ _ (Below.refl _ _) rfl _ rfl
        case n7 =>
          intro wq hbw st  K hK
          have KQ := KR.out.trans (hbw.mono KR.out.size)
          simp only [Act.put, List.setIfInBounds_toArray, List.set_cons_zero, List.set_cons_succ] at hK ⊢
          unfold opStep
          rw [if_pos (by rfl)]
          have dd := Lib.hid (HY.out.1 _ KQ)
          have d0 := dd.out.1
          have d1 := dd.out.2
          go_simp
          exact hK.out _ _ (Below.refl _ _) rfl _ rfl
        case n8 =>
          intro wq hbw st  K hK
          have KQ := KR.out.trans (hbw.mono KR.out.size)
          simp only [Act.put, List.setIfInBounds_toArray, List.set_cons_zero, List.set_cons_succ] at hK ⊢
          unfold opStep
          rw [if_pos (by rfl)]
          go_simp
          have hpc := rdep_any _ _ x y wq ⟨_, rfl, HX.out.2.keep KQ⟩ ⟨_, rfl, HY.out.2.keep KQ⟩
          rw [HD.out] at hpc
          refine hpc.mono ?_
          rintro e wz ⟨rfl, hbz⟩
          go_simp
          exact hK.out _ _ hbz rfl _ rfl
        case nfin =>
          intro wq hbw
          try simp only [FinAll]
          simp only [Act.put, List.setIfInBounds_toArray, List.set_cons_zero, List.set_cons_succ]
          have K2 := Lib.hid (KR.out.trans (hbw.mono KR.out.size))
          clear hbw KR HX HY HD
          have hin2 : i ≤ 1000 := by have := HIT.out.1; omega
          go_wp2
          go_loopg [7] j (fun m kx wr => ∃ k : Nat, m + k = j + (i + 1) ∧ k ≤ j ∧ i < k ∧ kx = .int .i64 k ∧ noR t i j k ∧ Below W.heap.size W wr)
          case atStart => exact ⟨i + 1, rfl, by have := HIJ.out.1; omega, by omega, by go_num, noR_start t i j, K2.out⟩
          case round =>
            rename World => w1
            obtain ⟨k, hmk, hkj0, hik, rfl, hno, hb1⟩ := hrel
            have HM := Lib.hid (And.intro hmk hkj0)
            have HIK := Lib.hid (And.intro hik trivial)
            have HNR := Lib.hid hno
            have KR := Lib.hid hb1
            have hk : k ≤ j := by omega
            have hkn : k ≤ 1000 := by have := HIT.out.2.1; omega
            clear hmk hno hb1 hik hkj0
            by_cases hkj : k < j
            · have hkI : (k : Int) < (j : Int) := by omega
              have hk0 : (0 : Int) ≤ (k : Int) := by omega
              have hkt : (k : Int) < t.length := by have := HIT.out.2.1; omega
              have HKJ := Lib.hid (And.intro hkj trivial)
              have hkl : k < t.length := by have := HIT.out.2.1; omega
              have hlt := HIT.out.1
              have HVIA := Lib.hid (@rch_via t i j k HIK.out.1 hkj)
              have HSUC := Lib.hid (@noR_succ t i j k HNR.out)
              have HKL := Lib.hid (And.intro hkl trivial)

              obtain ⟨b2, off2, cap1, s1, c1, hv, hcell, r1⟩ := HR.out.at2 hlt
              injection hv with e1 e2 e3
              injection e1 with e1
              injection e1 with e1 e4
              subst e1 e4
              obtain ⟨b', off', cap2, s2, c2, hv, hcell', r2⟩ := HR.out.at2 hkl
              injection hv with e1 e2' e3'
              injection e1 with e1
              injection e1 with e1 e4
              subst e1 e4
              have hdi : depI t i k = depE t[i] t[k] := by unfold depI; rw [nthE_eq hlt, nthE_eq hkl]
              have HX := Lib.hid (And.intro hcell r1)
              have HY := Lib.hid (And.intro hcell' r2)
              clear e2 e3 e2' e3' hcell hcell' r1 r2
              generalize t[i] = x2 at *
              generalize t[k] = y2 at *
              clear hkl hlt hkj
              by_cases hd : depE x2 y2 = true
              · have HD := Lib.hid hd
                have HDJ := Lib.hid (hdi.trans hd)
                clear hd hdi
                by_cases hr2 : rch t k j = true
                · have HRK := Lib.hid hr2
                  have HRC := Lib.hid fun (wz : World) (hz : Below W.heap.size W wz) => IH.out (t.length - k) (by have := HIT.out; have := HIK.out.1; have := HKL.out.1; omega) k (.slice (some ⟨b, off, none⟩) t.length cap) wz rfl HKL.out.1 (HR.out.on hz)
                  rw [hr2] at HRC
                  clear hr2
                  go_wp2_with fail
                  refine region_left [.is (.slice (some ⟨b, off, none⟩) t.length cap), .is (.int .i64 (i : Int)), .is (.pointer (some ⟨b, off + i * 2, none⟩)), .is (.agg #[.int .i64 x2.1, .slice s1 x2.2.length c1]), .is (.slice (some ⟨b, off, none⟩) t.length cap), .is (.int .i64 (k : Int)), .is (.pointer (some ⟨b, off + k * 2, none⟩)), .is (.agg #[.int .i64 y2.1, .slice s2 y2.2.length c2]), .is (.bool true), .is (.bool true), .is (.slice (some ⟨b, off, none⟩) t.length cap), .is (.int .i64 (k : Int)), .is (.int .i64 (j : Int)), .is (.bool true), .is (.bool true)] (by kernel_rfl) rfl (by kernel_rfl) (by kernel_rfl) (.cons ?p0 (.cons ?p1 (.cons ?p2 (.cons ?p3 (.cons ?p4 (.cons ?p5 (.cons ?p6 (.cons ?p7 (.cons ?p8 (.cons ?p9 (.cons ?p10 (.cons ?p11 (.cons ?p12 (.cons ?p13 (.cons ?p14 .nil))))))))))))))) ?pfin
                  case p0 =>
                    intro wq hbw st  K hK
                    have KQ := KR.out.trans (hbw.mono KR.out.size)
                    simp only [Act.put, List.setIfInBounds_toArray, List.set_cons_zero, List.set_cons_succ] at hK ⊢
                    unfold opStep
                    rw [if_pos (by rfl)]
                    go_simp
                    exact hK.out _ _ (Below.refl _ _) rfl _ rfl
                  case p1 =>
                    intro wq hbw st  K hK
                    have KQ := KR.out.trans (hbw.mono KR.out.size)
                    simp only [Act.put, List.setIfInBounds_toArray, List.set_cons_zero, List.set_cons_succ] at hK ⊢
                    unfold opStep
                    rw [if_pos (by rfl)]
                    go_simp
                    exact hK.out _ _ (Below.refl _ _) rfl _ rfl
                  case p2 =>
                    intro wq hbw st  K hK
                    have KQ := KR.out.trans (hbw.mono KR.out.size)
                    simp only [Act.put, List.setIfInBounds_toArray, List.set_cons_zero, List.set_cons_succ] at hK ⊢
                    unfold opStep
                    rw [if_pos (by rfl)]
                    go_simp
                    exact hK.out _ _ (Below.refl _ _) rfl _ rfl
                  case p3 =>
                    intro wq hbw st  K hK
                    have KQ := KR.out.trans (hbw.mono KR.out.size)
                    simp only [Act.put, List.setIfInBounds_toArray, List.set_cons_zero, List.set_cons_succ] at hK ⊢
                    unfold opStep
                    rw [if_pos (by rfl)]
                    have dd := Lib.hid (HX.out.1 _ KQ)
                    have d0 := dd.out.1
                    have d1 := dd.out.2
                    go_simp
                    exact hK.out _ _ (Below.refl _ _) rfl _ rfl
                  case p4 =>
                    intro wq hbw st  K hK
                    have KQ := KR.out.trans (hbw.mono KR.out.size)
                    simp only [Act.put, List.setIfInBounds_toArray, List.set_cons_zero, List.set_cons_succ] at hK ⊢
                    unfold opStep
                    rw [if_pos (by rfl)]
                    go_simp
                    exact hK.out _ _ (Below.refl _ _) rfl _ rfl
                  case p5 =>
                    intro wq hbw st  K hK
                    have KQ := KR.out.trans (hbw.mono KR.out.size)
                    simp only [Act.put, List.setIfInBounds_toArray, List.set_cons_zero, List.set_cons_succ] at hK ⊢
                    unfold opStep
                    rw [if_pos (by rfl)]
                    go_simp
                    exact hK.out _ _ (Below.refl _ _) rfl _ rfl
                  case p6 =>
                    intro wq hbw st  K hK
                    have KQ := KR.out.trans (hbw.mono KR.out.size)
                    simp only [Act.put, List.setIfInBounds_toArray, List.set_cons_zero, List.set_cons_succ] at hK ⊢
                    unfold opStep
                    rw [if_pos (by rfl)]
                    go_simp
                    exact hK.out _ _ (Below.refl _ _) rfl _ rfl
                  case p7 =>
                    intro wq hbw st  K hK
                    have KQ := KR.out.trans (hbw.mono KR.out.size)
                    simp only [Act.put, List.setIfInBounds_toArray, List.set_cons_zero, List.set_cons_succ] at hK ⊢
                    unfold opStep
                    rw [if_pos (by rfl)]
                    have dd := Lib.hid (HY.out.1 _ KQ)
                    have d0 := dd.out.1
                    have d1 := dd.out.2
                    go_simp
                    exact hK.out _ _ (Below.refl _ _) rfl _ rfl
                  case p8 =>
                    intro wq hbw st  K hK
                    have KQ := KR.out.trans (hbw.mono KR.out.size)
                    simp only [Act.put, List.setIfInBounds_toArray, List.set_cons_zero, List.set_cons_succ] at hK ⊢
                    unfold opStep
                    rw [if_pos (by rfl)]
                    go_simp
                    have hpc := rdep_any _ _ x2 y2 wq ⟨_, rfl, HX.out.2.keep KQ⟩ ⟨_, rfl, HY.out.2.keep KQ⟩
                    rw [HD.out] at hpc
                    refine hpc.mono ?_
                    rintro e wz ⟨rfl, hbz⟩
                    go_simp
                    exact hK.out _ _ hbz rfl _ rfl
                  case p9 =>
                    intro wq hbw st  K hK
                    have KQ := KR.out.trans (hbw.mono KR.out.size)
                    simp only [Act.put, List.setIfInBounds_toArray, List.set_cons_zero, List.set_cons_succ] at hK ⊢
                    unfold opStep
                    rw [if_pos (by rfl)]
                    go_simp
                    exact hK.out _ _ (Below.refl _ _) rfl _ rfl
                  case p10 =>
                    intro wq hbw st  K hK
                    have KQ := KR.out.trans (hbw.mono KR.out.size)
                    simp only [Act.put, List.setIfInBounds_toArray, List.set_cons_zero, List.set_cons_succ] at hK ⊢
                    unfold opStep
                    rw [if_pos (by rfl)]
                    go_simp
                    exact hK.out _ _ (Below.refl _ _) rfl _ rfl
                  case p11 =>
                    intro wq hbw st  K hK
                    have KQ := KR.out.trans (hbw.mono KR.out.size)
                    simp only [Act.put, List.setIfInBounds_toArray, List.set_cons_zero, List.set_cons_succ] at hK ⊢
                    unfold opStep
                    rw [if_pos (by rfl)]
                    go_simp
                    exact hK.out _ _ (Below.refl _ _) rfl _ rfl
                  case p12 =>
                    intro wq hbw st  K hK
                    have KQ := KR.out.trans (hbw.mono KR.out.size)
                    simp only [Act.put, List.setIfInBounds_toArray, List.set_cons_zero, List.set_cons_succ] at hK ⊢
                    unfold opStep
                    rw [if_pos (by rfl)]
                    go_simp
                    exact hK.out _ _ (Below.refl _ _) rfl _ rfl
                  case p13 =>
                    intro wq hbw st  K hK
                    have KQ := KR.out.trans (hbw.mono KR.out.size)
                    simp only [Act.put, List.setIfInBounds_toArray, List.set_cons_zero, List.set_cons_succ] at hK ⊢
                    unfold opStep
                    rw [if_pos (by rfl)]
                    go_simp
                    refine (HRC.out wq (KR.out.trans (hbw.mono KR.out.size))).mono ?_
                    rintro e wz ⟨rfl, hbz⟩
                    go_simp
                    exact hK.out _ _ hbz rfl _ rfl
                  case p14 =>
                    intro wq hbw st  K hK
                    have KQ := KR.out.trans (hbw.mono KR.out.size)
                    simp only [Act.put, List.setIfInBounds_toArray, List.set_cons_zero, List.set_cons_succ] at hK ⊢
                    unfold opStep
                    rw [if_pos (by rfl)]
                    go_simp
                    exact hK.out _ _ (Below.refl _ _) rfl _ rfl
                  case pfin =>
                    intro wq hbw
                    try simp only [FinAll]
                    simp only [Act.put, List.setIfInBounds_toArray, List.set_cons_zero, List.set_cons_succ]
                    have K2 := Lib.hid (KR.out.trans (hbw.mono KR.out.size))
                    clear hbw KR HX HY HD HRC
                    have HRES := Lib.hid (HVIA.out HDJ.out HRK.out)
                    go_wp2
                    go_ret
                    exact ⟨by rw [HRES.out]; rfl, K2.out⟩
                · rw [Bool.not_eq_true] at hr2
                  have HRK := Lib.hid hr2
                  have HRC := Lib.hid fun (wz : World) (hz : Below W.heap.size W wz) => IH.out (t.length - k) (by have := HIT.out; have := HIK.out.1; have := HKL.out.1; omega) k (.slice (some ⟨b, off, none⟩) t.length cap) wz rfl HKL.out.1 (HR.out.on hz)
                  rw [hr2] at HRC
                  clear hr2
                  go_wp2_with fail
                  refine region_left [.is (.slice (some ⟨b, off, none⟩) t.length cap), .is (.int .i64 (i : Int)), .is (.pointer (some ⟨b, off + i * 2, none⟩)), .is (.agg #[.int .i64 x2.1, .slice s1 x2.2.length c1]), .is (.slice (some ⟨b, off, none⟩) t.length cap), .is (.int .i64 (k : Int)), .is (.pointer (some ⟨b, off + k * 2, none⟩)), .is (.agg #[.int .i64 y2.1, .slice s2 y2.2.length c2]), .is (.bool true), .is (.bool true), .is (.slice (some ⟨b, off, none⟩) t.length cap), .is (.int .i64 (k : Int)), .is (.int .i64 (j : Int)), .is (.bool false), .is (.bool false)] (by kernel_rfl) rfl (by kernel_rfl) (by kernel_rfl) (.cons ?q0 (.cons ?q1 (.cons ?q2 (.cons ?q3 (.cons ?q4 (.cons ?q5 (.cons ?q6 (.cons ?q7 (.cons ?q8 (.cons ?q9 (.cons ?q10 (.cons ?q11 (.cons ?q12 (.cons ?q13 (.cons ?q14 .nil))))))))))))))) ?qfin
                  case q0 =>
                    intro wq hbw st  K hK
                    have KQ := KR.out.trans (hbw.mono KR.out.size)
                    simp only [Act.put, List.setIfInBounds_toArray, List.set_cons_zero, List.set_cons_succ] at hK ⊢
                    unfold opStep
                    rw [if_pos (by rfl)]
                    go_simp
                    exact hK.out _ _ (Below.refl _ _) rfl _ rfl
                  case q1 =>
                    intro wq hbw st  K hK
                    have KQ := KR.out.trans (hbw.mono KR.out.size)
                    simp only [Act.put, List.setIfInBounds_toArray, List.set_cons_zero, List.set_cons_succ] at hK ⊢
                    unfold opStep
                    rw [if_pos (by rfl)]
                    go_simp
                    exact hK.out _ _ (Below.refl _ _) rfl _ rfl
                  case q2 =>
                    intro wq hbw st  K hK
                    have KQ := KR.out.trans (hbw.mono KR.out.size)
                    simp only [Act.put, List.setIfInBounds_toArray, List.set_cons_zero, List.set_cons_succ] at hK ⊢
                    unfold opStep
                    rw [if_pos (by rfl)]
                    go_simp
                    exact hK.out _ _ (Below.refl _ _) rfl _ rfl
                  case q3 =>
                    intro wq hbw st  K hK
                    have KQ := KR.out.trans (hbw.mono KR.out.size)
                    simp only [Act.put, List.setIfInBounds_toArray, List.set_cons_zero, List.set_cons_succ] at hK ⊢
                    unfold opStep
                    rw [if_pos (by rfl)]
                    have dd := Lib.hid (HX.out.1 _ KQ)
                    have d0 := dd.out.1
                    have d1 := dd.out.2
                    go_simp
                    exact hK.out _ _ (Below.refl _ _) rfl _ rfl
                  case q4 =>
                    intro wq hbw st  K hK
                    have KQ := KR.out.trans (hbw.mono KR.out.size)
                    simp only [Act.put, List.setIfInBounds_toArray, List.set_cons_zero, List.set_cons_succ] at hK ⊢
                    unfold opStep
                    rw [if_pos (by rfl)]
                    go_simp
                    exact hK.out _ _ (Below.refl _ _) rfl _ rfl
                  case q5 =>
                    intro wq hbw st  K hK
                    have KQ := KR.out.trans (hbw.mono KR.out.size)
                    simp only [Act.put, List.setIfInBounds_toArray, List.set_cons_zero, List.set_cons_succ] at hK ⊢
                    unfold opStep
                    rw [if_pos (by rfl)]
                    go_simp
                    exact hK.out _ _ (Below.refl _ _) rfl _ rfl
                  case q6 =>
                    intro wq hbw st  K hK
                    have KQ := KR.out.trans (hbw.mono KR.out.size)
                    simp only [Act.put, List.setIfInBounds_toArray, List.set_cons_zero, List.set_cons_succ] at hK ⊢
                    unfold opStep
                    rw [if_pos (by rfl)]
                    go_simp
                    exact hK.out _ _ (Below.refl _ _) rfl _ rfl
                  case q7 =>
                    intro wq hbw st  K hK
                    have KQ := KR.out.trans (hbw.mono KR.out.size)
                    simp only [Act.put, List.setIfInBounds_toArray, List.set_cons_zero, List.set_cons_succ] at hK ⊢
                    unfold opStep
                    rw [if_pos (by rfl)]
                    have dd := Lib.hid (HY.out.1 _ KQ)
                    have d0 := dd.out.1
                    have d1 := dd.out.2
                    go_simp
                    exact hK.out _ _ (Below.refl _ _) rfl _ rfl
                  case q8 =>
                    intro wq hbw st  K hK
                    have KQ := KR.out.trans (hbw.mono KR.out.size)
                    simp only [Act.put, List.setIfInBounds_toArray, List.set_cons_zero, List.set_cons_succ] at hK ⊢
                    unfold opStep
                    rw [if_pos (by rfl)]
                    go_simp
                    have hpc := rdep_any _ _ x2 y2 wq ⟨_, rfl, HX.out.2.keep KQ⟩ ⟨_, rfl, HY.out.2.keep KQ⟩
                    rw [HD.out] at hpc
                    refine hpc.mono ?_
                    rintro e wz ⟨rfl, hbz⟩
                    go_simp
                    exact hK.out _ _ hbz rfl _ rfl
                  case q9 =>
                    intro wq hbw st  K hK
                    have KQ := KR.out.trans (hbw.mono KR.out.size)
                    simp only [Act.put, List.setIfInBounds_toArray, List.set_cons_zero, List.set_cons_succ] at hK ⊢
                    unfold opStep
                    rw [if_pos (by rfl)]
                    go_simp
                    exact hK.out _ _ (Below.refl _ _) rfl _ rfl
                  case q10 =>
                    intro wq hbw st  K hK
                    have KQ := KR.out.trans (hbw.mono KR.out.size)
                    simp only [Act.put, List.setIfInBounds_toArray, List.set_cons_zero, List.set_cons_succ] at hK ⊢
                    unfold opStep
                    rw [if_pos (by rfl)]
                    go_simp
                    exact hK.out _ _ (Below.refl _ _) rfl _ rfl
                  case q11 =>
                    intro wq hbw st  K hK
                    have KQ := KR.out.trans (hbw.mono KR.out.size)
                    simp only [Act.put, List.setIfInBounds_toArray, List.set_cons_zero, List.set_cons_succ] at hK ⊢
                    unfold opStep
                    rw [if_pos (by rfl)]
                    go_simp
                    exact hK.out _ _ (Below.refl _ _) rfl _ rfl
                  case q12 =>
                    intro wq hbw st  K hK
                    have KQ := KR.out.trans (hbw.mono KR.out.size)
                    simp only [Act.put, List.setIfInBounds_toArray, List.set_cons_zero, List.set_cons_succ] at hK ⊢
                    unfold opStep
                    rw [if_pos (by rfl)]
                    go_simp
                    exact hK.out _ _ (Below.refl _ _) rfl _ rfl
                  case q13 =>
                    intro wq hbw st  K hK
                    have KQ := KR.out.trans (hbw.mono KR.out.size)
                    simp only [Act.put, List.setIfInBounds_toArray, List.set_cons_zero, List.set_cons_succ] at hK ⊢
                    unfold opStep
                    rw [if_pos (by rfl)]
                    go_simp
                    refine (HRC.out wq (KR.out.trans (hbw.mono KR.out.size))).mono ?_
                    rintro e wz ⟨rfl, hbz⟩
                    go_simp
                    exact hK.out _ _ hbz rfl _ rfl
                  case q14 =>
                    intro wq hbw st  K hK
                    have KQ := KR.out.trans (hbw.mono KR.out.size)
                    simp only [Act.put, List.setIfInBounds_toArray, List.set_cons_zero, List.set_cons_succ] at hK ⊢
                    unfold opStep
                    rw [if_pos (by rfl)]
                    go_simp
                    exact hK.out _ _ (Below.refl _ _) rfl _ rfl
                  case qfin =>
                    intro wq hbw
                    try simp only [FinAll]
                    simp only [Act.put, List.setIfInBounds_toArray, List.set_cons_zero, List.set_cons_succ]
                    have K2 := Lib.hid (KR.out.trans (hbw.mono KR.out.size))
                    clear hbw KR HX HY HD HRC
                    have HN2 := Lib.hid (HSUC.out (by rw [HRK.out, Bool.and_false]))
                    go_wp2
                    go_roundg (j + i - k)
                    case measure => have := HM.out; have := HKJ.out.1; omega
                    case rel => exact ⟨k + 1, by have := HKJ.out.1; omega, by have := HKJ.out.1; omega, by have := HIK.out.1; omega, by go_num, HN2.out, K2.out⟩
              · rw [Bool.not_eq_true] at hd
                have HD := Lib.hid hd
                have HDJ := Lib.hid (hdi.trans hd)
                clear hd hdi
                go_wp2_with fail
                refine region_left [.is (.slice (some ⟨b, off, none⟩) t.length cap), .is (.int .i64 (i : Int)), .is (.pointer (some ⟨b, off + i * 2, none⟩)), .is (.agg #[.int .i64 x2.1, .slice s1 x2.2.length c1]), .is (.slice (some ⟨b, off, none⟩) t.length cap), .is (.int .i64 (k : Int)), .is (.pointer (some ⟨b, off + k * 2, none⟩)), .is (.agg #[.int .i64 y2.1, .slice s2 y2.2.length c2]), .is (.bool false), .is (.bool false), .is undef, .is undef, .is undef, .is undef, .is (.bool false)] (by kernel_rfl) rfl (by kernel_rfl) (by kernel_rfl) (.cons ?o0 (.cons ?o1 (.cons ?o2 (.cons ?o3 (.cons ?o4 (.cons ?o5 (.cons ?o6 (.cons ?o7 (.cons ?o8 (.cons ?o9 (.cons ?o10 (.cons ?o11 (.cons ?o12 (.cons ?o13 (.cons ?o14 .nil))))))))))))))) ?ofin
                case o0 =>
                  intro wq hbw st  K hK
                  have KQ := KR.out.trans (hbw.mono KR.out.size)
                  simp only [Act.put, List.setIfInBounds_toArray, List.set_cons_zero, List.set_cons_succ] at hK ⊢
                  unfold opStep
                  rw [if_pos (by rfl)]
                  go_simp
                  exact hK.out _ _ (Below.refl _ _) rfl _ rfl
                case o1 =>
                  intro wq hbw st  K hK
                  have KQ := KR.out.trans (hbw.mono KR.out.size)
                  simp only [Act.put, List.setIfInBounds_toArray, List.set_cons_zero, List.set_cons_succ] at hK ⊢
                  unfold opStep
                  rw [if_pos (by rfl)]
                  go_simp
                  exact hK.out _ _ (Below.refl _ _) rfl _ rfl
                case o2 =>
                  intro wq hbw st  K hK
                  have KQ := KR.out.trans (hbw.mono KR.out.size)
                  simp only [Act.put, List.setIfInBounds_toArray, List.set_cons_zero, List.set_cons_succ] at hK ⊢
                  unfold opStep
                  rw [if_pos (by rfl)]
                  go_simp
                  exact hK.out _ _ (Below.refl _ _) rfl _ rfl
                case o3 =>
                  intro wq hbw st  K hK
                  have KQ := KR.out.trans (hbw.mono KR.out.size)
                  simp only [Act.put, List.setIfInBounds_toArray, List.set_cons_zero, List.set_cons_succ] at hK ⊢
                  unfold opStep
                  rw [if_pos (by rfl)]
                  have dd := Lib.hid (HX.out.1 _ KQ)
                  have d0 := dd.out.1
                  have d1 := dd.out.2
                  go_simp
                  exact hK.out _ _ (Below.refl _ _) rfl _ rfl
                case o4 =>
                  intro wq hbw st  K hK
                  have KQ := KR.out.trans (hbw.mono KR.out.size)
                  simp only [Act.put, List.setIfInBounds_toArray, List.set_cons_zero, List.set_cons_succ] at hK ⊢
                  unfold opStep
                  rw [if_pos (by rfl)]
                  go_simp
                  exact hK.out _ _ (Below.refl _ _) rfl _ rfl
                case o5 =>
                  intro wq hbw st  K hK
                  have KQ := KR.out.trans (hbw.mono KR.out.size)
                  simp only [Act.put, List.setIfInBounds_toArray, List.set_cons_zero, List.set_cons_succ] at hK ⊢
                  unfold opStep
                  rw [if_pos (by rfl)]
                  go_simp
                  exact hK.out _ _ (Below.refl _ _) rfl _ rfl
                case o6 =>
                  intro wq hbw st  K hK
                  have KQ := KR.out.trans (hbw.mono KR.out.size)
                  simp only [Act.put, List.setIfInBounds_toArray, List.set_cons_zero, List.set_cons_succ] at hK ⊢
                  unfold opStep
                  rw [if_pos (by rfl)]
                  go_simp
                  exact hK.out _ _ (Below.refl _ _) rfl _ rfl
                case o7 =>
                  intro wq hbw st  K hK
                  have KQ := KR.out.trans (hbw.mono KR.out.size)
                  simp only [Act.put, List.setIfInBounds_toArray, List.set_cons_zero, List.set_cons_succ] at hK ⊢
                  unfold opStep
                  rw [if_pos (by rfl)]
                  have dd := Lib.hid (HY.out.1 _ KQ)
                  have d0 := dd.out.1
                  have d1 := dd.out.2
                  go_simp
                  exact hK.out _ _ (Below.refl _ _) rfl _ rfl
                case o8 =>
                  intro wq hbw st  K hK
                  have KQ := KR.out.trans (hbw.mono KR.out.size)
                  simp only [Act.put, List.setIfInBounds_toArray, List.set_cons_zero, List.set_cons_succ] at hK ⊢
                  unfold opStep
                  rw [if_pos (by rfl)]
                  go_simp
                  have hpc := rdep_any _ _ x2 y2 wq ⟨_, rfl, HX.out.2.keep KQ⟩ ⟨_, rfl, HY.out.2.keep KQ⟩
                  rw [HD.out] at hpc
                  refine hpc.mono ?_
                  rintro e wz ⟨rfl, hbz⟩
                  go_simp
                  exact hK.out _ _ hbz rfl _ rfl
                case o9 =>
                  intro wq hbw st  K hK
                  have KQ := KR.out.trans (hbw.mono KR.out.size)
                  simp only [Act.put, List.setIfInBounds_toArray, List.set_cons_zero, List.set_cons_succ] at hK ⊢
                  unfold opStep
                  rw [if_pos (by rfl)]
                  go_simp
                  exact hK.out _ _ (Below.refl _ _) rfl _ rfl
                case o10 =>
                  intro wq hbw st  K hK
                  have KQ := KR.out.trans (hbw.mono KR.out.size)
                  simp only [Act.put, List.setIfInBounds_toArray, List.set_cons_zero, List.set_cons_succ] at hK ⊢
                  unfold opStep
                  rw [if_neg (by change ¬ (false = true); exact Bool.false_ne_true)]
                  exact hK.out _ _ (Below.refl _ _) rfl _ rfl
                case o11 =>
                  intro wq hbw st  K hK
                  have KQ := KR.out.trans (hbw.mono KR.out.size)
                  simp only [Act.put, List.setIfInBounds_toArray, List.set_cons_zero, List.set_cons_succ] at hK ⊢
                  unfold opStep
                  rw [if_neg (by change ¬ (false = true); exact Bool.false_ne_true)]
                  exact hK.out _ _ (Below.refl _ _) rfl _ rfl
                case o12 =>
                  intro wq hbw st  K hK
                  have KQ := KR.out.trans (hbw.mono KR.out.size)
                  simp only [Act.put, List.setIfInBounds_toArray, List.set_cons_zero, List.set_cons_succ] at hK ⊢
                  unfold opStep
                  rw [if_neg (by change ¬ (false = true); exact Bool.false_ne_true)]
                  exact hK.out _ _ (Below.refl _ _) rfl _ rfl
                case o13 =>
                  intro wq hbw st  K hK
                  have KQ := KR.out.trans (hbw.mono KR.out.size)
                  simp only [Act.put, List.setIfInBounds_toArray, List.set_cons_zero, List.set_cons_succ] at hK ⊢
                  unfold opStep
                  rw [if_neg (by change ¬ (false = true); exact Bool.false_ne_true)]
                  exact hK.out _ _ (Below.refl _ _) rfl _ rfl
                case o14 =>
                  intro wq hbw st  K hK
                  have KQ := KR.out.trans (hbw.mono KR.out.size)
                  simp only [Act.put, List.setIfInBounds_toArray, List.set_cons_zero, List.set_cons_succ] at hK ⊢
                  unfold opStep
                  rw [if_pos (by rfl)]
                  go_simp
                  exact hK.out _ _ (Below.refl _ _) rfl _ rfl
                case ofin =>
                  intro wq hbw
                  try simp only [FinAll]
                  simp only [Act.put, List.setIfInBounds_toArray, List.set_cons_zero, List.set_cons_succ]
                  have K2 := Lib.hid (KR.out.trans (hbw.mono KR.out.size))
                  clear hbw KR HX HY HD
                  have HN2 := Lib.hid (HSUC.out (by rw [HDJ.out, Bool.false_and]))
                  go_wp2
                  go_roundg (j + i - k)
                  case measure => have := HM.out; have := HKJ.out.1; omega
                  case rel => exact ⟨k + 1, by have := HKJ.out.1; omega, by have := HKJ.out.1; omega, by have := HIK.out.1; omega, by go_num, HN2.out, K2.out⟩
            · have e : k = j := by omega
              subst e
              have hkk : ¬ (k : Int) < (k : Int) := by omega
              have HRES := Lib.hid (HND.out HDI.out HNR.out)
              go_wp2
              go_ret
              exact ⟨by rw [HRES.out]; rfl, KR.out⟩
    · have hij2 : (j : Int) ≤ (i : Int) := by omega
      have HRES := Lib.hid (@rch_not t i j hij)
      rw [HRES.out]
      clear hij hit
      go_enter Try.func28, Try.ntmps28
      go_wp2
      go_ret
      exact ⟨rfl, Below.refl _ _⟩
end Go.Proofs.Ytfdicndmebhmdaa
