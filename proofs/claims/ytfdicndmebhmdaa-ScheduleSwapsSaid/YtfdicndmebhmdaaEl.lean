/-
  Chapter 29: Independent.
-/
import Derived.Test.YtfdicndmebhmdaaEj
namespace Go.Proofs.Ytfdicndmebhmdaa
open Go.RowKit
def indK (t : List Ev) (k : Nat) : List Nat := (List.range k).filter fun i => !depI t i (i + 1)
def indE (t : List Ev) : List Nat := indK t (t.length - 1)
theorem indK_yes {t : List Ev} {k : Nat} (h : depI t k (k + 1) = false) : indK t (k + 1) = indK t k ++ [k] := by
  unfold indK
  rw [List.range_succ, List.filter_append]
  simp [h]
theorem indK_no {t : List Ev} {k : Nat} (h : depI t k (k + 1) = true) : indK t (k + 1) = indK t k := by
  unfold indK
  rw [List.range_succ, List.filter_append]
  simp [h]
theorem indK_len (t : List Ev) (k : Nat) : (indK t k).length ≤ k := Nat.le_trans (List.length_filter_le _ _) (by simp)
def ListMade (W : World) (l : List Nat) (e : Ending) (w' : World) : Prop := ∃ v, e = .returned v ∧ w'.ownsRow W.heap.size 3 1 v l.length (l.map nv) ∧ Below W.heap.size W w'
set_option maxRecDepth 100000 in
set_option maxHeartbeats 4000000 in
theorem indep_any (tv : Value) (t : List Ev) (W : World) (hr : ReadsE W tv t) (hn : t.length ≤ 1000) : Calls Try.prog 13 #[tv] W (ListMade W (indE t)) := by
  have HR := Lib.hid hr
  obtain ⟨ao, cap, rfl, hl, hm, -, -⟩ := hr
  unfold maxLen at hm
  go_enter Try.func13, Try.ntmps13
  go_wp2
  go_loopg [3, 4] t.length (fun m o idx wr => ∃ i : Nat, m + i = t.length ∧ i ≤ t.length - 1 ∧ idx = .int .i64 i ∧ wr.ownsRow W.heap.size 3 1 o (indK t i).length ((indK t i).map nv) ∧ Below W.heap.size W wr)
  case atStart => exact ⟨0, by omega, by omega, rfl, World.ownsRow_nil _ _ _ _, Below.refl _ _⟩
  case round =>
    obtain ⟨i, hmi, hile, rfl, hrow, hbel⟩ := hrel
    have HM := Lib.hid (And.intro hmi hile)
    have HROW := Lib.hid hrow
    have KW := Lib.hid hbel
    have HLEN := Lib.hid (indK_len t i)
    have hi : i ≤ 1000 := by omega
    obtain ⟨oa, oc, rfl⟩ := row_slc hrow
    clear hmi hile hrow hbel
    obtain ⟨k, hk⟩ : ∃ k, k = i + 1 := ⟨_, rfl⟩
    have ek : (i : Int) + 1 = (k : Int) := by omega
    have ew : IntKind.i64.wrap (k : Int) = (k : Int) := IntWalk.i64_in _ (by omega)
    have HK := Lib.hid hk
    by_cases hkl : k < t.length
    · have hlt : i < t.length := by omega
      have hii : (i : Int) < t.length := by omega
      have hi0 : (0 : Int) ≤ (i : Int) := by omega
      have hki : (k : Int) < t.length := by omega
      have hk0 : (0 : Int) ≤ (k : Int) := by omega
      have HYN : Hid ((depI t i k = false → indK t k = indK t i ++ [i]) ∧ (depI t i k = true → indK t k = indK t i)) := Lib.hid (by subst hk; exact ⟨indK_yes, indK_no⟩)
      have HKL := Lib.hid (And.intro hkl trivial)
      clear hk
      obtain ⟨b, off, cap1, s1, c1, hv, hcell, r1⟩ := HR.out.at2 hlt
      injection hv with e1 e2 e3
      subst e1
      obtain ⟨b', off', cap2, s2, c2, hv, hcell', r2⟩ := HR.out.at2 hkl
      injection hv with e1 e2' e3'
      injection e1 with e1
      injection e1 with e1 e4
      subst e1 e4
      have hdi : depI t i k = depE t[i] t[k] := by unfold depI; rw [nthE_eq hlt, nthE_eq hkl]
      have HX := Lib.hid (And.intro hcell r1)
      have HY := Lib.hid (And.intro hcell' r2)
      clear e2 e3 e2' e3' hcell hcell' r1 r2
      generalize t[i] = x at *
      generalize t[k] = y at *
      clear hlt hkl
      by_cases hd : depE x y = true
      · have HD := Lib.hid hd
        have HDI := Lib.hid (hdi.trans hd)
        clear hd hdi
        go_wp2
        refine region_left [.is (.slice (some ⟨b, off, none⟩) t.length cap), .is (.int .i64 (i : Int)), .is (.pointer (some ⟨b, off + i * 2, none⟩)), .is (.agg #[.int .i64 x.1, .slice s1 x.2.length c1]), .is (.slice (some ⟨b, off, none⟩) t.length cap), .is (.int .i64 (i : Int)), .is (.int .i64 (k : Int)), .is (.pointer (some ⟨b, off + k * 2, none⟩)), .is (.agg #[.int .i64 y.1, .slice s2 y.2.length c2]), .is (.bool true), .is (.bool false)] (by kernel_rfl) rfl (by kernel_rfl) (by kernel_rfl) (.cons ?y0 (.cons ?y1 (.cons ?y2 (.cons ?y3 (.cons ?y4 (.cons ?y5 (.cons ?y6 (.cons ?y7 (.cons ?y8 (.cons ?y9 (.cons ?y10 .nil))))))))))) ?yfin
        case y0 =>
          intro wq hbw st  K hK
          have KQ := KW.out.trans (hbw.mono KW.out.size)
          simp only [Act.put, List.setIfInBounds_toArray, List.set_cons_zero, List.set_cons_succ] at hK ⊢
          unfold opStep
          rw [if_pos (by rfl)]
          go_simp
          exact hK.out _ _ (Below.refl _ _) rfl _ rfl
        case y1 =>
          intro wq hbw st  K hK
          have KQ := KW.out.trans (hbw.mono KW.out.size)
          simp only [Act.put, List.setIfInBounds_toArray, List.set_cons_zero, List.set_cons_succ] at hK ⊢
          unfold opStep
          rw [if_pos (by rfl)]
          go_simp
          exact hK.out _ _ (Below.refl _ _) rfl _ rfl
        case y2 =>
          intro wq hbw st  K hK
          have KQ := KW.out.trans (hbw.mono KW.out.size)
          simp only [Act.put, List.setIfInBounds_toArray, List.set_cons_zero, List.set_cons_succ] at hK ⊢
          unfold opStep
          rw [if_pos (by rfl)]
          go_simp
          exact hK.out _ _ (Below.refl _ _) rfl _ rfl
        case y3 =>
          intro wq hbw st  K hK
          have KQ := KW.out.trans (hbw.mono KW.out.size)
          simp only [Act.put, List.setIfInBounds_toArray, List.set_cons_zero, List.set_cons_succ] at hK ⊢
          unfold opStep
          rw [if_pos (by rfl)]
          have dd := Lib.hid (HX.out.1 _ KQ)
          have d0 := dd.out.1
          have d1 := dd.out.2
          go_simp
          exact hK.out _ _ (Below.refl _ _) rfl _ rfl
        case y4 =>
          intro wq hbw st  K hK
          have KQ := KW.out.trans (hbw.mono KW.out.size)
          simp only [Act.put, List.setIfInBounds_toArray, List.set_cons_zero, List.set_cons_succ] at hK ⊢
          unfold opStep
          rw [if_pos (by rfl)]
          go_simp
          exact hK.out _ _ (Below.refl _ _) rfl _ rfl
        case y5 =>
          intro wq hbw st  K hK
          have KQ := KW.out.trans (hbw.mono KW.out.size)
          simp only [Act.put, List.setIfInBounds_toArray, List.set_cons_zero, List.set_cons_succ] at hK ⊢
          unfold opStep
          rw [if_pos (by rfl)]
          go_simp
          exact hK.out _ _ (Below.refl _ _) rfl _ rfl
        case y6 =>
          intro wq hbw st  K hK
          have KQ := KW.out.trans (hbw.mono KW.out.size)
          simp only [Act.put, List.setIfInBounds_toArray, List.set_cons_zero, List.set_cons_succ] at hK ⊢
          unfold opStep
          rw [if_pos (by rfl)]
          go_simp
          exact hK.out _ _ (Below.refl _ _) rfl _ rfl
        case y7 =>
          intro wq hbw st  K hK
          have KQ := KW.out.trans (hbw.mono KW.out.size)
          simp only [Act.put, List.setIfInBounds_toArray, List.set_cons_zero, List.set_cons_succ] at hK ⊢
          unfold opStep
          rw [if_pos (by rfl)]
          go_simp
          exact hK.out _ _ (Below.refl _ _) rfl _ rfl
        case y8 =>
          intro wq hbw st  K hK
          have KQ := KW.out.trans (hbw.mono KW.out.size)
          simp only [Act.put, List.setIfInBounds_toArray, List.set_cons_zero, List.set_cons_succ] at hK ⊢
          unfold opStep
          rw [if_pos (by rfl)]
          have dd := Lib.hid (HY.out.1 _ KQ)
          have d0 := dd.out.1
          have d1 := dd.out.2
          go_simp
          exact hK.out _ _ (Below.refl _ _) rfl _ rfl
        case y9 =>
          intro wq hbw st  K hK
          have KQ := KW.out.trans (hbw.mono KW.out.size)
          simp only [Act.put, List.setIfInBounds_toArray, List.set_cons_zero, List.set_cons_succ] at hK ⊢
          unfold opStep
          rw [if_pos (by rfl)]
          go_simp
          have hpc := dep_any _ _ x y wq ⟨_, rfl, HX.out.2.keep KQ⟩ ⟨_, rfl, HY.out.2.keep KQ⟩
          rw [HD.out] at hpc
          refine hpc.mono ?_
          rintro e wz ⟨rfl, hbz⟩
          go_simp
          exact hK.out _ _ hbz rfl _ rfl
        case y10 =>
          intro wq hbw st  K hK
          have KQ := KW.out.trans (hbw.mono KW.out.size)
          simp only [Act.put, List.setIfInBounds_toArray, List.set_cons_zero, List.set_cons_succ] at hK ⊢
          unfold opStep
          rw [if_pos (by rfl)]
          go_simp
          exact hK.out _ _ (Below.refl _ _) rfl _ rfl
        case yfin =>
          intro wq hbw
          try simp only [FinAll]
          simp only [Act.put, List.setIfInBounds_toArray, List.set_cons_zero, List.set_cons_succ]
          have KW2 := Lib.hid (KW.out.trans (hbw.mono KW.out.size))
          have HROW2 := Lib.hid (below_row HROW.out hbw)
          clear hbw KW HROW HX HY HD
          have HL := Lib.hid (HYN.out.2 HDI.out)
          go_wp2
          go_roundg (t.length - k)
          case measure => have := HM.out; have := HK.out; omega
          case rel => exact ⟨k, by have := HKL.out.1; omega, by have := HKL.out.1; omega, by go_num, by rw [HL.out]; exact HROW2.out, KW2.out⟩
      · rw [Bool.not_eq_true] at hd
        have HD := Lib.hid hd
        have HDI := Lib.hid (hdi.trans hd)
        clear hd hdi
        go_wp2
        refine region_left [.is (.slice (some ⟨b, off, none⟩) t.length cap), .is (.int .i64 (i : Int)), .is (.pointer (some ⟨b, off + i * 2, none⟩)), .is (.agg #[.int .i64 x.1, .slice s1 x.2.length c1]), .is (.slice (some ⟨b, off, none⟩) t.length cap), .is (.int .i64 (i : Int)), .is (.int .i64 (k : Int)), .is (.pointer (some ⟨b, off + k * 2, none⟩)), .is (.agg #[.int .i64 y.1, .slice s2 y.2.length c2]), .is (.bool false), .is (.bool true)] (by kernel_rfl) rfl (by kernel_rfl) (by kernel_rfl) (.cons ?n0 (.cons ?n1 (.cons ?n2 (.cons ?n3 (.cons ?n4 (.cons ?n5 (.cons ?n6 (.cons ?n7 (.cons ?n8 (.cons ?n9 (.cons ?n10 .nil))))))))))) ?nfin
        case n0 =>
          intro wq hbw st  K hK
          have KQ := KW.out.trans (hbw.mono KW.out.size)
          simp only [Act.put, List.setIfInBounds_toArray, List.set_cons_zero, List.set_cons_succ] at hK ⊢
          unfold opStep
          rw [if_pos (by rfl)]
          go_simp
          exact hK.out _ _ (Below.refl _ _) rfl _ rfl
        case n1 =>
          intro wq hbw st  K hK
          have KQ := KW.out.trans (hbw.mono KW.out.size)
          simp only [Act.put, List.setIfInBounds_toArray, List.set_cons_zero, List.set_cons_succ] at hK ⊢
          unfold opStep
          rw [if_pos (by rfl)]
          go_simp
          exact hK.out _ _ (Below.refl _ _) rfl _ rfl
        case n2 =>
          intro wq hbw st  K hK
          have KQ := KW.out.trans (hbw.mono KW.out.size)
          simp only [Act.put, List.setIfInBounds_toArray, List.set_cons_zero, List.set_cons_succ] at hK ⊢
          unfold opStep
          rw [if_pos (by rfl)]
          go_simp
          exact hK.out _ _ (Below.refl _ _) rfl _ rfl
        case n3 =>
          intro wq hbw st  K hK
          have KQ := KW.out.trans (hbw.mono KW.out.size)
          simp only [Act.put, List.setIfInBounds_toArray, List.set_cons_zero, List.set_cons_succ] at hK ⊢
          unfold opStep
          rw [if_pos (by rfl)]
          have dd := Lib.hid (HX.out.1 _ KQ)
          have d0 := dd.out.1
          have d1 := dd.out.2
          go_simp
          exact hK.out _ _ (Below.refl _ _) rfl _ rfl
        case n4 =>
          intro wq hbw st  K hK
          have KQ := KW.out.trans (hbw.mono KW.out.size)
          simp only [Act.put, List.setIfInBounds_toArray, List.set_cons_zero, List.set_cons_succ] at hK ⊢
          unfold opStep
          rw [if_pos (by rfl)]
          go_simp
          exact hK.out _ _ (Below.refl _ _) rfl _ rfl
        case n5 =>
          intro wq hbw st  K hK
          have KQ := KW.out.trans (hbw.mono KW.out.size)
          simp only [Act.put, List.setIfInBounds_toArray, List.set_cons_zero, List.set_cons_succ] at hK ⊢
          unfold opStep
          rw [if_pos (by rfl)]
          go_simp
          exact hK.out _ _ (Below.refl _ _) rfl _ rfl
        case n6 =>
          intro wq hbw st  K hK
          have KQ := KW.out.trans (hbw.mono KW.out.size)
          simp only [Act.put, List.setIfInBounds_toArray, List.set_cons_zero, List.set_cons_succ] at hK ⊢
          unfold opStep
          rw [if_pos (by rfl)]
          go_simp
          exact hK.out _ _ (Below.refl _ _) rfl _ rfl
        case n7 =>
          intro wq hbw st  K hK
          have KQ := KW.out.trans (hbw.mono KW.out.size)
          simp only [Act.put, List.setIfInBounds_toArray, List.set_cons_zero, List.set_cons_succ] at hK ⊢
          unfold opStep
          rw [if_pos (by rfl)]
          go_simp
          exact hK.out _ _ (Below.refl _ _) rfl _ rfl
        case n8 =>
          intro wq hbw st  K hK
          have KQ := KW.out.trans (hbw.mono KW.out.size)
          simp only [Act.put, List.setIfInBounds_toArray, List.set_cons_zero, List.set_cons_succ] at hK ⊢
          unfold opStep
          rw [if_pos (by rfl)]
          have dd := Lib.hid (HY.out.1 _ KQ)
          have d0 := dd.out.1
          have d1 := dd.out.2
          go_simp
          exact hK.out _ _ (Below.refl _ _) rfl _ rfl
        case n9 =>
          intro wq hbw st  K hK
          have KQ := KW.out.trans (hbw.mono KW.out.size)
          simp only [Act.put, List.setIfInBounds_toArray, List.set_cons_zero, List.set_cons_succ] at hK ⊢
          unfold opStep
          rw [if_pos (by rfl)]
          go_simp
          have hpc := dep_any _ _ x y wq ⟨_, rfl, HX.out.2.keep KQ⟩ ⟨_, rfl, HY.out.2.keep KQ⟩
          rw [HD.out] at hpc
          refine hpc.mono ?_
          rintro e wz ⟨rfl, hbz⟩
          go_simp
          exact hK.out _ _ hbz rfl _ rfl
        case n10 =>
          intro wq hbw st  K hK
          have KQ := KW.out.trans (hbw.mono KW.out.size)
          simp only [Act.put, List.setIfInBounds_toArray, List.set_cons_zero, List.set_cons_succ] at hK ⊢
          unfold opStep
          rw [if_pos (by rfl)]
          go_simp
          exact hK.out _ _ (Below.refl _ _) rfl _ rfl
        case nfin =>
          intro wq hbw
          try simp only [FinAll]
          simp only [Act.put, List.setIfInBounds_toArray, List.set_cons_zero, List.set_cons_succ]
          have KW2 := Lib.hid (KW.out.trans (hbw.mono KW.out.size))
          have HROW2 := Lib.hid (below_row HROW.out hbw)
          clear hbw KW HROW HX HY HD
          have HL := Lib.hid (HYN.out.1 HDI.out)
          generalize hl : indK t i = l at *
          have HLL := Lib.hid hl
          clear hl
          have hll : l.length ≤ 1000 := by have := HLEN.out; omega
          go_wp2_with (at_builtin; refine append_nv rfl _ _ rfl W.heap.size (.slice oa l.length oc) l wq.heap.size i rfl (HROW2.out.alloc _) rfl (Blk.new _ _ _) (by omega) (by have := KW2.out.size; simp; omega) ?_)
          intro v' w' h1 h2
          have HR1 := Lib.hid h1
          have HB1 := Lib.hid ((KW2.out.alloc KW2.out.size _).grown h2 (by simp; have := KW2.out.size; omega) (fun j hj => (HROW2.out.lt j hj).1))
          clear h1 h2
          go_wp2
          go_roundg (t.length - k)
          case measure => have := HM.out; have := HK.out; omega
          case rel => exact ⟨k, by have := HKL.out.1; omega, by have := HKL.out.1; omega, by go_num, by rw [HL.out, List.length_append, List.map_append]; exact HR1.out, HB1.out⟩
    · have e : i = t.length - 1 := by have := HM.out; omega
      subst e
      clear hk
      go_wp2
      go_ret
      exact ⟨_, rfl, HROW.out, KW.out⟩
end Go.Proofs.Ytfdicndmebhmdaa
