/-
  Chapter 29: the reference: Least.
-/
import Derived.Test.YtfdicndmebhmdaaNj
import Derived.Test.YtfdicndmebhmdaaFn
namespace Go.Proofs.Ytfdicndmebhmdaa
open Go.RowKit
def frK (t : List Ev) (i k : Nat) : Bool := (List.range k).all fun j => !depI t j i
theorem frK_succ (t : List Ev) (i k : Nat) : frK t i (k + 1) = (frK t i k && !depI t k i) := by
  unfold frK; rw [List.range_succ, List.all_append]; simp
theorem frK_rdy (t : List Ev) (i : Nat) : frK t i i = rdyB t noU i := by
  rw [Bool.eq_iff_iff, rdyB_iff]
  unfold frK
  simp only [List.all_eq_true, List.mem_range, Bool.not_eq_true']
  exact ⟨fun h => ⟨rfl, fun j hj _ => h j hj⟩, fun h j hj => h.2 j hj rfl⟩
def lK (t : List Ev) : Nat → List Nat
  | 0 => []
  | k + 1 => if rdyB t noU k = true then insN t k (lK t k) else lK t k
theorem lK_mem (t : List Ev) : ∀ (k i : Nat), i ∈ lK t k ↔ i < k ∧ rdyB t noU i = true
  | 0, i => by simp [lK]
  | k + 1, i => by
    unfold lK
    split
    · rename_i h
      rw [(insN_perm t k _).mem_iff, List.mem_cons, lK_mem t k i]
      constructor
      · rintro (e | e)
        · subst e; exact ⟨by omega, h⟩
        · exact ⟨by omega, e.2⟩
      · rintro ⟨h1, h2⟩
        by_cases e : i = k
        · exact .inl e
        · exact .inr ⟨by omega, h2⟩
    · rename_i h
      rw [lK_mem t k i]
      constructor
      · exact fun e => ⟨by omega, e.2⟩
      · rintro ⟨h1, h2⟩
        by_cases e : i = k
        · subst e; exact absurd h2 h
        · exact ⟨by omega, h2⟩
theorem lK_nodup (t : List Ev) : ∀ k : Nat, (lK t k).Nodup
  | 0 => .nil
  | k + 1 => by
    unfold lK
    split
    · refine (insN_perm t k _).nodup_iff.2 (List.nodup_cons.2 ⟨fun h => ?_, lK_nodup t k⟩)
      have := ((lK_mem t k k).1 h).1; omega
    · exact lK_nodup t k
theorem lK_sorted (t : List Ev) : ∀ k : Nat, (lK t k).Pairwise fun a b => nmI t a ≤ nmI t b
  | 0 => .nil
  | k + 1 => by
    unfold lK
    split
    · exact insN_sorted t k (lK_sorted t k)
    · exact lK_sorted t k
theorem lK_strict (t : List Ev) (k : Nat) : (lK t k).Pairwise fun a b => nmI t a < nmI t b := by
  have h := (lK_sorted t k).and (lK_nodup t k)
  refine h.imp_of_mem fun {a b} ha hb hab => ?_
  have := rdy_name ((lK_mem t k a).1 ha).2 ((lK_mem t k b).1 hb).2 hab.2
  omega
theorem lK_all (t : List Ev) : lK t t.length = rdyS t noU := sorted_one (R := fun a b => nmI t a < nmI t b) (fun a b h1 h2 => by omega) (lK_strict t _) (rdyS_strict t noU) fun x => by rw [lK_mem, mem_rdyS]
theorem lK_len (t : List Ev) : ∀ k, (lK t k).length ≤ k
  | 0 => Nat.le_refl _
  | k + 1 => by
    unfold lK
    have := lK_len t k
    split
    · rw [(insN_perm t k _).length_eq, List.length_cons]; omega
    · omega
theorem insN_at (t : List Ev) (i : Nat) : ∀ (l : List Nat) (p : Nat), p ≤ l.length → (∀ j (h : j < l.length), j < p → nmI t l[j] < nmI t i) → (∀ h : p < l.length, nmI t i ≤ nmI t l[p]) → insN t i l = l.take p ++ ([i] ++ l.drop p)
  | [], p, hp, _, _ => by simp at hp; subst hp; rfl
  | a :: l, 0, hp, _, h2 => by
    have := h2 (by simp)
    simp only [List.getElem_cons_zero] at this
    unfold insN
    rw [if_pos this]; rfl
  | a :: l, p + 1, hp, h1, h2 => by
    unfold insN
    have := h1 0 (by simp) (by omega)
    rw [if_neg (by simp at this; omega), insN_at t i l p (by simpa using hp) (fun j h hj => by have := h1 (j + 1) (by simp; omega) (by omega); simpa using this) (fun h => by have := h2 (by simp; omega); simpa using this)]
    rfl
/-- The reads of a row's tail. -/
theorem addr0 (g j : Nat) : (⟨g, 0, none⟩ : Addr).add j = ⟨g, j, none⟩ := by unfold Addr.add; split <;> simp_all
theorem nvs_one {k : Nat} {l : List Nat} {p : Nat} : ∀ u ∈ [nv k] ++ (l.map nv).drop p, u.oneCell' = true := by
  intro u hu
  rcases List.mem_append.1 hu with hu | hu
  · rw [List.mem_singleton.1 hu]; rfl
  · obtain ⟨q, _, rfl⟩ := List.mem_map.1 (List.mem_of_mem_drop hu); rfl
theorem row_new {B : Nat} {e : TypeId} (w : World) (x : Value) (hB : B ≤ w.heap.size) : (w.alloc (.cells #[x] e)).ownsRow B e 1 (.slice (some ⟨w.heap.size, 0, none⟩) 1 1) 1 [x] :=
  ⟨rfl, .inr ⟨w.heap.size, 1, #[x], rfl, hB, Blk.new w e #[x], Nat.le_refl _, by decide, rfl, rfl⟩⟩
theorem below_own {B B' s n : Nat} {e : TypeId} {v : Value} {xs : List Value} {w w' : World} (h1 : B ≤ B') (h : w.ownsRow B' e s v n xs) (hg : w.grownBy w' v.ownBlock) (h2 : B' ≤ w.heap.size) : Below B w w' :=
  ⟨hg.os, hg.tape, hg.output, hg.size, fun i hi => hg.block i (by omega) fun q => by have := (h.lt i q.symm).1; omega⟩
theorem row_tail {w : World} {B n c g p : Nat} {e : TypeId} {xs : List Value} (h : w.ownsRow B e 1 (.slice (some ⟨g, 0, none⟩) n c) n xs) {ad : Addr} (had : p < n → ad = ⟨g, p, none⟩) : ∀ j u, (xs.drop p)[j]? = some u → w.cell? (ad.add j) = some u := by
  intro j u hu
  rw [List.getElem?_drop] at hu
  have hl : p + j < n := by have := (List.getElem?_eq_some_iff.1 hu).1; have := h.1; omega
  rw [had (by omega)]
  have h1 := (row_cell h hu).1
  have e : (⟨g, p, none⟩ : Addr).add j = ⟨g, p + j, none⟩ := by unfold Addr.add; split <;> simp_all
  rw [e]; exact h1
set_option maxRecDepth 100000 in
set_option maxHeartbeats 8000000 in
theorem least_any (tv : Value) (t : List Ev) (W : World) (hr : ReadsE W tv t) (hn : t.length ≤ 1000) : Calls Try.prog 37 #[tv] W (ListMade W (rdyS t noU)) := by
  have HR := Lib.hid hr
  have HN := Lib.hid hn
  obtain ⟨ao, cap, rfl, hl, hm, -, -⟩ := hr
  unfold maxLen at hm
  have HI := Lib.hid (info_parts Try.infoInt1)
  go_enter Try.func37, Try.ntmps37
  go_wp2
  go_loopg [3, 4, 5, 6, 7] t.length (fun m o idx _ _ _ wr => ∃ (i g c : Nat), m + i = t.length ∧ o = .slice (some ⟨g, 0, none⟩) (lK t i).length c ∧ idx = .int .i64 i ∧ wr.ownsRow W.heap.size 3 1 o (lK t i).length ((lK t i).map nv) ∧ Below W.heap.size W wr)
  case atStart => exact ⟨0, _, _, by omega, rfl, rfl, World.ownsRow_made W #[] 0 (Nat.le_refl _) (Nat.zero_le _) rfl, (Below.refl _ _).alloc (Nat.le_refl _) _⟩
  case round =>
    rename World => w1
    obtain ⟨i, g, c, hmi, rfl, rfl, hrow, hbel⟩ := hrel
    have HM := Lib.hid hmi
    have HROW := Lib.hid hrow
    have KW := Lib.hid hbel
    have HLEN := Lib.hid (lK_len t i)
    have hcap := row_cap hrow
    unfold maxLen at hcap
    have hll : (lK t i).length ≤ 1000 := by have := HLEN.out; omega
    have HMEM := Lib.hid (fun x (h : x ∈ lK t i) => ((lK_mem t i x).1 h).1)
    have HST : Hid (lK t (i + 1) = if rdyB t noU i = true then insN t i (lK t i) else lK t i) := Lib.hid rfl
    have HINS := Lib.hid (insN_at t i (lK t i))
    have HFIN : Hid (i = t.length → w1.ownsRow W.heap.size 3 1 (.slice (some ⟨g, 0, none⟩) (lK t i).length c) (rdyS t noU).length ((rdyS t noU).map nv)) := Lib.hid (fun e => by have h := HROW.out; subst e; rw [lK_all] at h ⊢; exact h)
    generalize hlk : lK t i = l at *
    clear hlk
    have hi : i ≤ 1000 := by omega
    clear hmi hrow hbel
    by_cases hlt : i < t.length
    · have hii : (i : Int) < t.length := by omega
      have hi0 : (0 : Int) ≤ (i : Int) := by omega
      have HLT := Lib.hid hlt
      clear hlt
      go_wp2
      go_loopg [5, 6] i (fun m f kx w' => ∃ k : Nat, m + k = i ∧ f = .bool (frK t i k) ∧ kx = .int .i64 k ∧ Below w1.heap.size w1 w')
      case atStart => exact ⟨0, by omega, rfl, rfl, Below.refl _ _⟩
      case round =>
        rename World => w2
        obtain ⟨k, hmk, rfl, rfl, hb2⟩ := hrel
        have HM2 := Lib.hid hmk
        have KR := Lib.hid (KW.out.trans (hb2.mono KW.out.size))
        have K2 := Lib.hid hb2
        have hk : k ≤ i := by omega
        clear hmk hb2
        by_cases hki : k < i
        · have hkI : (k : Int) < (i : Int) := by omega
          have hk0 : (0 : Int) ≤ (k : Int) := by omega
          have hkt : (k : Int) < t.length := by omega
          have HKI := Lib.hid hki
          have hkl : k < t.length := by have := HLT.out; omega
          have hlt := HLT.out
          have HS := Lib.hid (frK_succ t i k)
          obtain ⟨b, off, cap1, s1, c1, hv, hcell, r1⟩ := HR.out.at2 hkl
          injection hv with e1 e2 e3
          subst e1
          obtain ⟨b', off', cap2, s2, c2, hv, hcell', r2⟩ := HR.out.at2 hlt
          injection hv with e1 e2' e3'
          injection e1 with e1
          injection e1 with e1 e4
          subst e1 e4
          have hdi : depI t k i = depE t[k] t[i] := by unfold depI; rw [nthE_eq hkl, nthE_eq hlt]
          have HX := Lib.hid (And.intro hcell r1)
          have HY := Lib.hid (And.intro hcell' r2)
          clear e2 e3 e2' e3' hcell hcell' r1 r2
          generalize t[k] = x at *
          generalize t[i] = y at *
          clear hkl hlt hki
          have HDI := Lib.hid hdi
          clear hdi
          generalize hfk : frK t i k = fk at *
          clear hfk
          cases fk with
          | true =>
            generalize hd : depE x y = d at *
            have HD := Lib.hid hd
            clear hd
            go_wp2_with fail
            refine region_left [.is (.bool true), .is (.bool true), .is (.slice (some ⟨b, off, none⟩) t.length cap), .is (.int .i64 (k : Int)), .is (.pointer (some ⟨b, off + k * 2, none⟩)), .is (.agg #[.int .i64 x.1, .slice s1 x.2.length c1]), .is (.slice (some ⟨b, off, none⟩) t.length cap), .is (.int .i64 (i : Int)), .is (.pointer (some ⟨b, off + i * 2, none⟩)), .is (.agg #[.int .i64 y.1, .slice s2 y.2.length c2]), .is (.bool d), .is (.bool (!d)), .is (.bool (!d)), .is (.bool (!d))] (by kernel_rfl) rfl (by kernel_rfl) (by kernel_rfl) (.cons ?a0 (.cons ?a1 (.cons ?a2 (.cons ?a3 (.cons ?a4 (.cons ?a5 (.cons ?a6 (.cons ?a7 (.cons ?a8 (.cons ?a9 (.cons ?a10 (.cons ?a11 (.cons ?a12 (.cons ?a13 .nil)))))))))))))) ?afin
            case a0 =>
              intro wq hbw st  K hK
              have KQ := KR.out.trans (hbw.mono KR.out.size)
              simp only [Act.put, List.setIfInBounds_toArray, List.set_cons_zero, List.set_cons_succ] at hK ⊢
              unfold opStep
              rw [if_pos (by rfl)]
              go_simp
              exact hK.out _ _ (Below.refl _ _) rfl _ rfl
            case a1 =>
              intro wq hbw st  K hK
              have KQ := KR.out.trans (hbw.mono KR.out.size)
              simp only [Act.put, List.setIfInBounds_toArray, List.set_cons_zero, List.set_cons_succ] at hK ⊢
              unfold opStep
              rw [if_pos (by rfl)]
              go_simp
              exact hK.out _ _ (Below.refl _ _) rfl _ rfl
            case a2 =>
              intro wq hbw st  K hK
              have KQ := KR.out.trans (hbw.mono KR.out.size)
              simp only [Act.put, List.setIfInBounds_toArray, List.set_cons_zero, List.set_cons_succ] at hK ⊢
              unfold opStep
              rw [if_pos (by rfl)]
              go_simp
              exact hK.out _ _ (Below.refl _ _) rfl _ rfl
            case a3 =>
              intro wq hbw st  K hK
              have KQ := KR.out.trans (hbw.mono KR.out.size)
              simp only [Act.put, List.setIfInBounds_toArray, List.set_cons_zero, List.set_cons_succ] at hK ⊢
              unfold opStep
              rw [if_pos (by rfl)]
              go_simp
              exact hK.out _ _ (Below.refl _ _) rfl _ rfl
            case a4 =>
              intro wq hbw st  K hK
              have KQ := KR.out.trans (hbw.mono KR.out.size)
              simp only [Act.put, List.setIfInBounds_toArray, List.set_cons_zero, List.set_cons_succ] at hK ⊢
              unfold opStep
              rw [if_pos (by rfl)]
              go_simp
              exact hK.out _ _ (Below.refl _ _) rfl _ rfl
            case a5 =>
              intro wq hbw st  K hK
              have KQ := KR.out.trans (hbw.mono KR.out.size)
              simp only [Act.put, List.setIfInBounds_toArray, List.set_cons_zero, List.set_cons_succ] at hK ⊢
              unfold opStep
              rw [if_pos (by rfl)]
              have dd := Lib.hid (HX.out.1 _ KQ)
              have d0 := dd.out.1
              have d1 := dd.out.2
              go_simp
              exact hK.out _ _ (Below.refl _ _) rfl _ rfl
            case a6 =>
              intro wq hbw st  K hK
              have KQ := KR.out.trans (hbw.mono KR.out.size)
              simp only [Act.put, List.setIfInBounds_toArray, List.set_cons_zero, List.set_cons_succ] at hK ⊢
              unfold opStep
              rw [if_pos (by rfl)]
              go_simp
              exact hK.out _ _ (Below.refl _ _) rfl _ rfl
            case a7 =>
              intro wq hbw st  K hK
              have KQ := KR.out.trans (hbw.mono KR.out.size)
              simp only [Act.put, List.setIfInBounds_toArray, List.set_cons_zero, List.set_cons_succ] at hK ⊢
              unfold opStep
              rw [if_pos (by rfl)]
              go_simp
              exact hK.out _ _ (Below.refl _ _) rfl _ rfl
            case a8 =>
              intro wq hbw st  K hK
              have KQ := KR.out.trans (hbw.mono KR.out.size)
              simp only [Act.put, List.setIfInBounds_toArray, List.set_cons_zero, List.set_cons_succ] at hK ⊢
              unfold opStep
              rw [if_pos (by rfl)]
              go_simp
              exact hK.out _ _ (Below.refl _ _) rfl _ rfl
            case a9 =>
              intro wq hbw st  K hK
              have KQ := KR.out.trans (hbw.mono KR.out.size)
              simp only [Act.put, List.setIfInBounds_toArray, List.set_cons_zero, List.set_cons_succ] at hK ⊢
              unfold opStep
              rw [if_pos (by rfl)]
              have dd := Lib.hid (HY.out.1 _ KQ)
              have d0 := dd.out.1
              have d1 := dd.out.2
              go_simp
              exact hK.out _ _ (Below.refl _ _) rfl _ rfl
            case a10 =>
              intro wq hbw st  K hK
              have KQ := KR.out.trans (hbw.mono KR.out.size)
              simp only [Act.put, List.setIfInBounds_toArray, List.set_cons_zero, List.set_cons_succ] at hK ⊢
              unfold opStep
              rw [if_pos (by rfl)]
              go_simp
              have hpc := rdep_any _ _ x y wq ⟨_, rfl, HX.out.2.keep KQ⟩ ⟨_, rfl, HY.out.2.keep KQ⟩
              rw [HD.out] at hpc
              refine hpc.mono ?_
              rintro e wz ⟨rfl, hbz⟩
              go_simp
              exact hK.out _ _ hbz rfl _ rfl
            case a11 =>
              intro wq hbw st  K hK
              have KQ := KR.out.trans (hbw.mono KR.out.size)
              simp only [Act.put, List.setIfInBounds_toArray, List.set_cons_zero, List.set_cons_succ] at hK ⊢
              unfold opStep
              rw [if_pos (by rfl)]
              go_simp
              exact hK.out _ _ (Below.refl _ _) rfl _ rfl
            case a12 =>
              intro wq hbw st  K hK
              have KQ := KR.out.trans (hbw.mono KR.out.size)
              simp only [Act.put, List.setIfInBounds_toArray, List.set_cons_zero, List.set_cons_succ] at hK ⊢
              unfold opStep
              rw [if_pos (by rfl)]
              go_simp
              exact hK.out _ _ (Below.refl _ _) rfl _ rfl
            case a13 =>
              intro wq hbw st  K hK
              have KQ := KR.out.trans (hbw.mono KR.out.size)
              simp only [Act.put, List.setIfInBounds_toArray, List.set_cons_zero, List.set_cons_succ] at hK ⊢
              unfold opStep
              rw [if_pos (by rfl)]
              go_simp
              exact hK.out _ _ (Below.refl _ _) rfl _ rfl
            case afin =>
              intro wq hbw
              try simp only [FinAll]
              simp only [Act.put, List.setIfInBounds_toArray, List.set_cons_zero, List.set_cons_succ]
              replace K2 := Lib.hid (K2.out.trans (hbw.mono K2.out.size))
              clear hbw KR HX HY
              go_wp2
              go_roundg (i - (k + 1))
              case measure => have := HM2.out; have := HKI.out; omega
              case rel => exact ⟨k + 1, by have := HKI.out; omega, by rw [HS.out, HDI.out]; rfl, by go_num, K2.out⟩
          | false =>
            go_wp2_with fail
            refine region_left [.is (.bool false), .is (.bool false), .is undef, .is undef, .is undef, .is undef, .is undef, .is undef, .is undef, .is undef, .is undef, .is undef, .is (.bool false), .is (.bool false)] (by kernel_rfl) rfl (by kernel_rfl) (by kernel_rfl) (.cons ?b0 (.cons ?b1 (.cons ?b2 (.cons ?b3 (.cons ?b4 (.cons ?b5 (.cons ?b6 (.cons ?b7 (.cons ?b8 (.cons ?b9 (.cons ?b10 (.cons ?b11 (.cons ?b12 (.cons ?b13 .nil)))))))))))))) ?bfin
            case b0 =>
              intro wq hbw st  K hK
              simp only [Act.put, List.setIfInBounds_toArray, List.set_cons_zero, List.set_cons_succ] at hK ⊢
              unfold opStep
              rw [if_pos (by rfl)]
              go_simp
              exact hK.out _ _ (Below.refl _ _) rfl _ rfl
            case b1 =>
              intro wq hbw st  K hK
              simp only [Act.put, List.setIfInBounds_toArray, List.set_cons_zero, List.set_cons_succ] at hK ⊢
              unfold opStep
              rw [if_pos (by rfl)]
              go_simp
              exact hK.out _ _ (Below.refl _ _) rfl _ rfl
            case b2 =>
              intro wq hbw st  K hK
              simp only [Act.put, List.setIfInBounds_toArray, List.set_cons_zero, List.set_cons_succ] at hK ⊢
              unfold opStep
              rw [if_neg (by change ¬ (false = true); exact Bool.false_ne_true)]
              exact hK.out _ _ (Below.refl _ _) rfl _ rfl
            case b3 =>
              intro wq hbw st  K hK
              simp only [Act.put, List.setIfInBounds_toArray, List.set_cons_zero, List.set_cons_succ] at hK ⊢
              unfold opStep
              rw [if_neg (by change ¬ (false = true); exact Bool.false_ne_true)]
              exact hK.out _ _ (Below.refl _ _) rfl _ rfl
            case b4 =>
              intro wq hbw st  K hK
              simp only [Act.put, List.setIfInBounds_toArray, List.set_cons_zero, List.set_cons_succ] at hK ⊢
              unfold opStep
              rw [if_neg (by change ¬ (false = true); exact Bool.false_ne_true)]
              exact hK.out _ _ (Below.refl _ _) rfl _ rfl
            case b5 =>
              intro wq hbw st  K hK
              simp only [Act.put, List.setIfInBounds_toArray, List.set_cons_zero, List.set_cons_succ] at hK ⊢
              unfold opStep
              rw [if_neg (by change ¬ (false = true); exact Bool.false_ne_true)]
              exact hK.out _ _ (Below.refl _ _) rfl _ rfl
            case b6 =>
              intro wq hbw st  K hK
              simp only [Act.put, List.setIfInBounds_toArray, List.set_cons_zero, List.set_cons_succ] at hK ⊢
              unfold opStep
              rw [if_neg (by change ¬ (false = true); exact Bool.false_ne_true)]
              exact hK.out _ _ (Below.refl _ _) rfl _ rfl
            case b7 =>
              intro wq hbw st  K hK
              simp only [Act.put, List.setIfInBounds_toArray, List.set_cons_zero, List.set_cons_succ] at hK ⊢
              unfold opStep
              rw [if_neg (by change ¬ (false = true); exact Bool.false_ne_true)]
              exact hK.out _ _ (Below.refl _ _) rfl _ rfl
            case b8 =>
              intro wq hbw st  K hK
              simp only [Act.put, List.setIfInBounds_toArray, List.set_cons_zero, List.set_cons_succ] at hK ⊢
              unfold opStep
              rw [if_neg (by change ¬ (false = true); exact Bool.false_ne_true)]
              exact hK.out _ _ (Below.refl _ _) rfl _ rfl
            case b9 =>
              intro wq hbw st  K hK
              simp only [Act.put, List.setIfInBounds_toArray, List.set_cons_zero, List.set_cons_succ] at hK ⊢
              unfold opStep
              rw [if_neg (by change ¬ (false = true); exact Bool.false_ne_true)]
              exact hK.out _ _ (Below.refl _ _) rfl _ rfl
            case b10 =>
              intro wq hbw st  K hK
              simp only [Act.put, List.setIfInBounds_toArray, List.set_cons_zero, List.set_cons_succ] at hK ⊢
              unfold opStep
              rw [if_neg (by change ¬ (false = true); exact Bool.false_ne_true)]
              exact hK.out _ _ (Below.refl _ _) rfl _ rfl
            case b11 =>
              intro wq hbw st  K hK
              simp only [Act.put, List.setIfInBounds_toArray, List.set_cons_zero, List.set_cons_succ] at hK ⊢
              unfold opStep
              rw [if_neg (by change ¬ (false = true); exact Bool.false_ne_true)]
              exact hK.out _ _ (Below.refl _ _) rfl _ rfl
            case b12 =>
              intro wq hbw st  K hK
              simp only [Act.put, List.setIfInBounds_toArray, List.set_cons_zero, List.set_cons_succ] at hK ⊢
              unfold opStep
              rw [if_pos (by rfl)]
              go_simp
              exact hK.out _ _ (Below.refl _ _) rfl _ rfl
            case b13 =>
              intro wq hbw st  K hK
              simp only [Act.put, List.setIfInBounds_toArray, List.set_cons_zero, List.set_cons_succ] at hK ⊢
              unfold opStep
              rw [if_pos (by rfl)]
              go_simp
              exact hK.out _ _ (Below.refl _ _) rfl _ rfl
            case bfin =>
              intro wq hbw
              try simp only [FinAll]
              simp only [Act.put, List.setIfInBounds_toArray, List.set_cons_zero, List.set_cons_succ]
              replace K2 := Lib.hid (K2.out.trans (hbw.mono K2.out.size))
              clear hbw KR HX HY
              go_wp2
              go_roundg (i - (k + 1))
              case measure => have := HM2.out; have := HKI.out; omega
              case rel => exact ⟨k + 1, by have := HKI.out; omega, by rw [HS.out]; rfl, by go_num, K2.out⟩
        · have e : k = i := by omega
          subst e
          have HFR := Lib.hid (frK_rdy t k)
          have hki' : ¬ (k : Int) < (k : Int) := by omega
          generalize hfr : frK t k k = fr at *
          clear hfr
          cases fr with
          | false =>
            have HST2 : Hid (lK t (k + 1) = l) := Lib.hid (by rw [HST.out, ← HFR.out]; rfl)
            have HROW2 := Lib.hid (below_row HROW.out K2.out)
            go_wp2
            go_roundg (t.length - (k + 1))
            case measure => have := HM.out; have := HLT.out; omega
            case rel => exact ⟨k + 1, g, c, by have := HLT.out; omega, by rw [HST2.out], by go_num, by rw [HST2.out]; exact HROW2.out, KR.out⟩
          | true =>
            have HST2 : Hid (lK t (k + 1) = insN t k l) := Lib.hid (by rw [HST.out, ← HFR.out]; rfl)
            have HROW2 := Lib.hid (below_row HROW.out K2.out)
            clear K2 HROW HST HFR
            go_wp2
            go_loopg [7] l.length (fun m px w' => ∃ p : Nat, m + p = l.length ∧ px = .int .i64 p ∧ (∀ j (h : j < l.length), j < p → nmI t l[j] < nmI t k) ∧ Below w2.heap.size w2 w')
            case atStart => exact ⟨0, by omega, rfl, fun j _ h => by omega, Below.refl _ _⟩
            case round =>
              rename World => w3
              obtain ⟨p, hmp, rfl, hall, hb3⟩ := hrel
              have HM3 := Lib.hid hmp
              have HALL := Lib.hid hall
              have hp : p ≤ l.length := by omega
              have hp0 : (0 : Int) ≤ (p : Int) := by omega
              have hpc : p ≤ c := by omega
              have HROW3 := Lib.hid (below_row HROW2.out hb3)
              have K3 := Lib.hid hb3
              have KR3 := Lib.hid (KR.out.trans (hb3.mono KR.out.size))
              have hlt := HLT.out
              have HGO : Hid (∀ h : p < l.length, nmI t l[p] < nmI t k → ∀ j (h : j < l.length), j < p + 1 → nmI t l[j] < nmI t k) := Lib.hid fun hpl h1 j hj hjp => by
                by_cases e : j = p
                · subst e; exact h1
                · exact HALL.out j hj (by omega)
              have HHALT : Hid ((∀ h : p < l.length, nmI t k ≤ nmI t l[p]) → insN t k l = l.take p ++ ([k] ++ l.drop p)) := Lib.hid fun h2 => HINS.out p (by omega) HALL.out h2
              clear hmp hall hb3
              by_cases hpl : p < l.length
              · have hpl2 : (p : Int) < l.length := by omega
                have hqt : l[p] < t.length := by have := HMEM.out l[p] (List.getElem_mem hpl); omega
                have HCELL : Hid (∀ wq, Below w3.heap.size w3 wq → wq.cell? ⟨g, p, none⟩ = some (nv l[p])) := Lib.hid fun wq hq => (row_cell (below_row HROW3.out hq) (by simp [hpl])).1
                have HGP : Hid ((nmI t l[p] < nmI t k → ∀ j (h : j < l.length), j < p + 1 → nmI t l[j] < nmI t k) ∧ (nmI t k ≤ nmI t l[p] → insN t k l = l.take p ++ ([k] ++ l.drop p))) := Lib.hid (And.intro (HGO.out hpl) (fun h => HHALT.out fun _ => h))
                clear HGO HHALT
                generalize l[p] = q at *
                have hq0 : (0 : Int) ≤ (q : Int) := by omega
                have hqI : (q : Int) < t.length := by omega
                have HNM : Hid (nmI t q = t[q].1 ∧ nmI t k = t[k].1) := Lib.hid ⟨by unfold nmI; rw [nthE_eq hqt], by unfold nmI; rw [nthE_eq hlt]⟩
                obtain ⟨b, off, cap1, s1, c1, hv, hcell, r1⟩ := HR.out.at2 hqt
                injection hv with e1 e2 e3
                subst e1
                obtain ⟨b', off', cap2, s2, c2, hv, hcell', r2⟩ := HR.out.at2 hlt
                injection hv with e1 e2' e3'
                injection e1 with e1
                injection e1 with e1 e4
                subst e1 e4
                have hdi : depI t q k = depE t[q] t[k] := by unfold depI; rw [nthE_eq hqt, nthE_eq hlt]
                have HX := Lib.hid (And.intro hcell r1)
                have HY := Lib.hid (And.intro hcell' r2)
                clear e2 e3 e2' e3' hcell hcell' r1 r2
                generalize t[q] = x at *
                generalize t[k] = y at *
                clear hdi
                clear hpl hqt hlt
                by_cases hxy : x.1 < y.1
                · have HG2 := Lib.hid (HGP.out.1 (by rw [HNM.out.1, HNM.out.2]; exact hxy))
                  clear HGP
                  go_wp2_with fail
                  refine region_left [.is (.int .i64 (p : Int)), .is (.slice (some ⟨g, 0, none⟩) l.length c), .is (.int .i64 (l.length : Int)), .is (.bool true), .is (.bool true), .is (.slice (some ⟨b, off, none⟩) t.length cap), .is (.slice (some ⟨g, 0, none⟩) l.length c), .is (.int .i64 (p : Int)), .is (.pointer (some ⟨g, p, none⟩)), .is (.int .i64 (q : Int)), .is (.pointer (some ⟨b, off + q * 2, none⟩)), .is (.pointer (some ⟨b, off + q * 2, none⟩)), .is (.int .i64 x.1), .is (.slice (some ⟨b, off, none⟩) t.length cap), .is (.int .i64 (k : Int)), .is (.pointer (some ⟨b, off + k * 2, none⟩)), .is (.pointer (some ⟨b, off + k * 2, none⟩)), .is (.int .i64 y.1), .is (.bool true), .is (.bool true)] (by kernel_rfl) rfl (by kernel_rfl) (by kernel_rfl) (.cons ?c0 (.cons ?c1 (.cons ?c2 (.cons ?c3 (.cons ?c4 (.cons ?c5 (.cons ?c6 (.cons ?c7 (.cons ?c8 (.cons ?c9 (.cons ?c10 (.cons ?c11 (.cons ?c12 (.cons ?c13 (.cons ?c14 (.cons ?c15 (.cons ?c16 (.cons ?c17 (.cons ?c18 (.cons ?c19 .nil)))))))))))))))))))) ?cfin
                  case c0 =>
                    intro wq hbw st  K hK
                    have KQ := KR3.out.trans (hbw.mono KR3.out.size)
                    simp only [Act.put, List.setIfInBounds_toArray, List.set_cons_zero, List.set_cons_succ] at hK ⊢
                    unfold opStep
                    rw [if_pos (by rfl)]
                    go_simp
                    exact hK.out _ _ (Below.refl _ _) rfl _ rfl
                  case c1 =>
                    intro wq hbw st  K hK
                    have KQ := KR3.out.trans (hbw.mono KR3.out.size)
                    simp only [Act.put, List.setIfInBounds_toArray, List.set_cons_zero, List.set_cons_succ] at hK ⊢
                    unfold opStep
                    rw [if_pos (by rfl)]
                    go_simp
                    exact hK.out _ _ (Below.refl _ _) rfl _ rfl
                  case c2 =>
                    intro wq hbw st  K hK
                    have KQ := KR3.out.trans (hbw.mono KR3.out.size)
                    simp only [Act.put, List.setIfInBounds_toArray, List.set_cons_zero, List.set_cons_succ] at hK ⊢
                    unfold opStep
                    rw [if_pos (by rfl)]
                    go_simp
                    exact hK.out _ _ (Below.refl _ _) rfl _ rfl
                  case c3 =>
                    intro wq hbw st  K hK
                    have KQ := KR3.out.trans (hbw.mono KR3.out.size)
                    simp only [Act.put, List.setIfInBounds_toArray, List.set_cons_zero, List.set_cons_succ] at hK ⊢
                    unfold opStep
                    rw [if_pos (by rfl)]
                    go_simp
                    exact hK.out _ _ (Below.refl _ _) rfl _ rfl
                  case c4 =>
                    intro wq hbw st  K hK
                    have KQ := KR3.out.trans (hbw.mono KR3.out.size)
                    simp only [Act.put, List.setIfInBounds_toArray, List.set_cons_zero, List.set_cons_succ] at hK ⊢
                    unfold opStep
                    rw [if_pos (by rfl)]
                    go_simp
                    exact hK.out _ _ (Below.refl _ _) rfl _ rfl
                  case c5 =>
                    intro wq hbw st  K hK
                    have KQ := KR3.out.trans (hbw.mono KR3.out.size)
                    simp only [Act.put, List.setIfInBounds_toArray, List.set_cons_zero, List.set_cons_succ] at hK ⊢
                    unfold opStep
                    rw [if_pos (by rfl)]
                    go_simp
                    exact hK.out _ _ (Below.refl _ _) rfl _ rfl
                  case c6 =>
                    intro wq hbw st  K hK
                    have KQ := KR3.out.trans (hbw.mono KR3.out.size)
                    simp only [Act.put, List.setIfInBounds_toArray, List.set_cons_zero, List.set_cons_succ] at hK ⊢
                    unfold opStep
                    rw [if_pos (by rfl)]
                    go_simp
                    exact hK.out _ _ (Below.refl _ _) rfl _ rfl
                  case c7 =>
                    intro wq hbw st  K hK
                    have KQ := KR3.out.trans (hbw.mono KR3.out.size)
                    simp only [Act.put, List.setIfInBounds_toArray, List.set_cons_zero, List.set_cons_succ] at hK ⊢
                    unfold opStep
                    rw [if_pos (by rfl)]
                    go_simp
                    exact hK.out _ _ (Below.refl _ _) rfl _ rfl
                  case c8 =>
                    intro wq hbw st  K hK
                    have KQ := KR3.out.trans (hbw.mono KR3.out.size)
                    simp only [Act.put, List.setIfInBounds_toArray, List.set_cons_zero, List.set_cons_succ] at hK ⊢
                    unfold opStep
                    rw [if_pos (by rfl)]
                    go_simp
                    exact hK.out _ _ (Below.refl _ _) rfl _ rfl
                  case c9 =>
                    intro wq hbw st  K hK
                    have KQ := KR3.out.trans (hbw.mono KR3.out.size)
                    simp only [Act.put, List.setIfInBounds_toArray, List.set_cons_zero, List.set_cons_succ] at hK ⊢
                    unfold opStep
                    rw [if_pos (by rfl)]
                    have d0 := HCELL.out wq hbw
                    unfold nv at d0
                    go_simp
                    exact hK.out _ _ (Below.refl _ _) rfl _ rfl
                  case c10 =>
                    intro wq hbw st  K hK
                    have KQ := KR3.out.trans (hbw.mono KR3.out.size)
                    simp only [Act.put, List.setIfInBounds_toArray, List.set_cons_zero, List.set_cons_succ] at hK ⊢
                    unfold opStep
                    rw [if_pos (by rfl)]
                    go_simp
                    exact hK.out _ _ (Below.refl _ _) rfl _ rfl
                  case c11 =>
                    intro wq hbw st  K hK
                    have KQ := KR3.out.trans (hbw.mono KR3.out.size)
                    simp only [Act.put, List.setIfInBounds_toArray, List.set_cons_zero, List.set_cons_succ] at hK ⊢
                    unfold opStep
                    rw [if_pos (by rfl)]
                    go_simp
                    exact hK.out _ _ (Below.refl _ _) rfl _ rfl
                  case c12 =>
                    intro wq hbw st  K hK
                    have KQ := KR3.out.trans (hbw.mono KR3.out.size)
                    simp only [Act.put, List.setIfInBounds_toArray, List.set_cons_zero, List.set_cons_succ] at hK ⊢
                    unfold opStep
                    rw [if_pos (by rfl)]
                    have dd := Lib.hid (HX.out.1 _ KQ)
                    have d0 := dd.out.1
                    have d1 := dd.out.2
                    go_simp
                    exact hK.out _ _ (Below.refl _ _) rfl _ rfl
                  case c13 =>
                    intro wq hbw st  K hK
                    have KQ := KR3.out.trans (hbw.mono KR3.out.size)
                    simp only [Act.put, List.setIfInBounds_toArray, List.set_cons_zero, List.set_cons_succ] at hK ⊢
                    unfold opStep
                    rw [if_pos (by rfl)]
                    go_simp
                    exact hK.out _ _ (Below.refl _ _) rfl _ rfl
                  case c14 =>
                    intro wq hbw st  K hK
                    have KQ := KR3.out.trans (hbw.mono KR3.out.size)
                    simp only [Act.put, List.setIfInBounds_toArray, List.set_cons_zero, List.set_cons_succ] at hK ⊢
                    unfold opStep
                    rw [if_pos (by rfl)]
                    go_simp
                    exact hK.out _ _ (Below.refl _ _) rfl _ rfl
                  case c15 =>
                    intro wq hbw st  K hK
                    have KQ := KR3.out.trans (hbw.mono KR3.out.size)
                    simp only [Act.put, List.setIfInBounds_toArray, List.set_cons_zero, List.set_cons_succ] at hK ⊢
                    unfold opStep
                    rw [if_pos (by rfl)]
                    go_simp
                    exact hK.out _ _ (Below.refl _ _) rfl _ rfl
                  case c16 =>
                    intro wq hbw st  K hK
                    have KQ := KR3.out.trans (hbw.mono KR3.out.size)
                    simp only [Act.put, List.setIfInBounds_toArray, List.set_cons_zero, List.set_cons_succ] at hK ⊢
                    unfold opStep
                    rw [if_pos (by rfl)]
                    go_simp
                    exact hK.out _ _ (Below.refl _ _) rfl _ rfl
                  case c17 =>
                    intro wq hbw st  K hK
                    have KQ := KR3.out.trans (hbw.mono KR3.out.size)
                    simp only [Act.put, List.setIfInBounds_toArray, List.set_cons_zero, List.set_cons_succ] at hK ⊢
                    unfold opStep
                    rw [if_pos (by rfl)]
                    have dd := Lib.hid (HY.out.1 _ KQ)
                    have d0 := dd.out.1
                    have d1 := dd.out.2
                    go_simp
                    exact hK.out _ _ (Below.refl _ _) rfl _ rfl
                  case c18 =>
                    intro wq hbw st  K hK
                    have KQ := KR3.out.trans (hbw.mono KR3.out.size)
                    simp only [Act.put, List.setIfInBounds_toArray, List.set_cons_zero, List.set_cons_succ] at hK ⊢
                    unfold opStep
                    rw [if_pos (by rfl)]
                    go_simp
                    exact hK.out _ _ (Below.refl _ _) rfl _ rfl
                  case c19 =>
                    intro wq hbw st  K hK
                    have KQ := KR3.out.trans (hbw.mono KR3.out.size)
                    simp only [Act.put, List.setIfInBounds_toArray, List.set_cons_zero, List.set_cons_succ] at hK ⊢
                    unfold opStep
                    rw [if_pos (by rfl)]
                    go_simp
                    exact hK.out _ _ (Below.refl _ _) rfl _ rfl
                  case cfin =>
                    intro wq hbw
                    try simp only [FinAll]
                    simp only [Act.put, List.setIfInBounds_toArray, List.set_cons_zero, List.set_cons_succ]
                    replace K3 := Lib.hid (K3.out.trans (hbw.mono K3.out.size))
                    clear hbw hxy HX HY KR3 HROW3 HCELL
                    go_wp2
                    go_roundg (l.length - (p + 1))
                    case measure => have := HM3.out; omega
                    case rel => exact ⟨p + 1, by have := HM3.out; omega, by go_num, HG2.out, K3.out⟩
                · have HEND := Lib.hid (HGP.out.2 (by rw [HNM.out.1, HNM.out.2]; omega))
                  have hxyd : decide (x.1 < y.1) = false := decide_eq_false hxy
                  clear HGP
                  go_wp2_with fail
                  refine region_left [.is (.int .i64 (p : Int)), .is (.slice (some ⟨g, 0, none⟩) l.length c), .is (.int .i64 (l.length : Int)), .is (.bool true), .is (.bool true), .is (.slice (some ⟨b, off, none⟩) t.length cap), .is (.slice (some ⟨g, 0, none⟩) l.length c), .is (.int .i64 (p : Int)), .is (.pointer (some ⟨g, p, none⟩)), .is (.int .i64 (q : Int)), .is (.pointer (some ⟨b, off + q * 2, none⟩)), .is (.pointer (some ⟨b, off + q * 2, none⟩)), .is (.int .i64 x.1), .is (.slice (some ⟨b, off, none⟩) t.length cap), .is (.int .i64 (k : Int)), .is (.pointer (some ⟨b, off + k * 2, none⟩)), .is (.pointer (some ⟨b, off + k * 2, none⟩)), .is (.int .i64 y.1), .is (.bool false), .is (.bool false)] (by kernel_rfl) rfl (by kernel_rfl) (by kernel_rfl) (.cons ?d0 (.cons ?d1 (.cons ?d2 (.cons ?d3 (.cons ?d4 (.cons ?d5 (.cons ?d6 (.cons ?d7 (.cons ?d8 (.cons ?d9 (.cons ?d10 (.cons ?d11 (.cons ?d12 (.cons ?d13 (.cons ?d14 (.cons ?d15 (.cons ?d16 (.cons ?d17 (.cons ?d18 (.cons ?d19 .nil)))))))))))))))))))) ?dfin
                  case d0 =>
                    intro w4 hbw st  K hK
                    have KQ := KR3.out.trans (hbw.mono KR3.out.size)
                    simp only [Act.put, List.setIfInBounds_toArray, List.set_cons_zero, List.set_cons_succ] at hK ⊢
                    unfold opStep
                    rw [if_pos (by rfl)]
                    go_simp
                    exact hK.out _ _ (Below.refl _ _) rfl _ rfl
                  case d1 =>
                    intro w4 hbw st  K hK
                    have KQ := KR3.out.trans (hbw.mono KR3.out.size)
                    simp only [Act.put, List.setIfInBounds_toArray, List.set_cons_zero, List.set_cons_succ] at hK ⊢
                    unfold opStep
                    rw [if_pos (by rfl)]
                    go_simp
                    exact hK.out _ _ (Below.refl _ _) rfl _ rfl
                  case d2 =>
                    intro w4 hbw st  K hK
                    have KQ := KR3.out.trans (hbw.mono KR3.out.size)
                    simp only [Act.put, List.setIfInBounds_toArray, List.set_cons_zero, List.set_cons_succ] at hK ⊢
                    unfold opStep
                    rw [if_pos (by rfl)]
                    go_simp
                    exact hK.out _ _ (Below.refl _ _) rfl _ rfl
                  case d3 =>
                    intro w4 hbw st  K hK
                    have KQ := KR3.out.trans (hbw.mono KR3.out.size)
                    simp only [Act.put, List.setIfInBounds_toArray, List.set_cons_zero, List.set_cons_succ] at hK ⊢
                    unfold opStep
                    rw [if_pos (by rfl)]
                    go_simp
                    exact hK.out _ _ (Below.refl _ _) rfl _ rfl
                  case d4 =>
                    intro w4 hbw st  K hK
                    have KQ := KR3.out.trans (hbw.mono KR3.out.size)
                    simp only [Act.put, List.setIfInBounds_toArray, List.set_cons_zero, List.set_cons_succ] at hK ⊢
                    unfold opStep
                    rw [if_pos (by rfl)]
                    go_simp
                    exact hK.out _ _ (Below.refl _ _) rfl _ rfl
                  case d5 =>
                    intro w4 hbw st  K hK
                    have KQ := KR3.out.trans (hbw.mono KR3.out.size)
                    simp only [Act.put, List.setIfInBounds_toArray, List.set_cons_zero, List.set_cons_succ] at hK ⊢
                    unfold opStep
                    rw [if_pos (by rfl)]
                    go_simp
                    exact hK.out _ _ (Below.refl _ _) rfl _ rfl
                  case d6 =>
                    intro w4 hbw st  K hK
                    have KQ := KR3.out.trans (hbw.mono KR3.out.size)
                    simp only [Act.put, List.setIfInBounds_toArray, List.set_cons_zero, List.set_cons_succ] at hK ⊢
                    unfold opStep
                    rw [if_pos (by rfl)]
                    go_simp
                    exact hK.out _ _ (Below.refl _ _) rfl _ rfl
                  case d7 =>
                    intro w4 hbw st  K hK
                    have KQ := KR3.out.trans (hbw.mono KR3.out.size)
                    simp only [Act.put, List.setIfInBounds_toArray, List.set_cons_zero, List.set_cons_succ] at hK ⊢
                    unfold opStep
                    rw [if_pos (by rfl)]
                    go_simp
                    exact hK.out _ _ (Below.refl _ _) rfl _ rfl
                  case d8 =>
                    intro w4 hbw st  K hK
                    have KQ := KR3.out.trans (hbw.mono KR3.out.size)
                    simp only [Act.put, List.setIfInBounds_toArray, List.set_cons_zero, List.set_cons_succ] at hK ⊢
                    unfold opStep
                    rw [if_pos (by rfl)]
                    go_simp
                    exact hK.out _ _ (Below.refl _ _) rfl _ rfl
                  case d9 =>
                    intro w4 hbw st  K hK
                    have KQ := KR3.out.trans (hbw.mono KR3.out.size)
                    simp only [Act.put, List.setIfInBounds_toArray, List.set_cons_zero, List.set_cons_succ] at hK ⊢
                    unfold opStep
                    rw [if_pos (by rfl)]
                    have d0 := HCELL.out w4 hbw
                    unfold nv at d0
                    go_simp
                    exact hK.out _ _ (Below.refl _ _) rfl _ rfl
                  case d10 =>
                    intro w4 hbw st  K hK
                    have KQ := KR3.out.trans (hbw.mono KR3.out.size)
                    simp only [Act.put, List.setIfInBounds_toArray, List.set_cons_zero, List.set_cons_succ] at hK ⊢
                    unfold opStep
                    rw [if_pos (by rfl)]
                    go_simp
                    exact hK.out _ _ (Below.refl _ _) rfl _ rfl
                  case d11 =>
                    intro w4 hbw st  K hK
                    have KQ := KR3.out.trans (hbw.mono KR3.out.size)
                    simp only [Act.put, List.setIfInBounds_toArray, List.set_cons_zero, List.set_cons_succ] at hK ⊢
                    unfold opStep
                    rw [if_pos (by rfl)]
                    go_simp
                    exact hK.out _ _ (Below.refl _ _) rfl _ rfl
                  case d12 =>
                    intro w4 hbw st  K hK
                    have KQ := KR3.out.trans (hbw.mono KR3.out.size)
                    simp only [Act.put, List.setIfInBounds_toArray, List.set_cons_zero, List.set_cons_succ] at hK ⊢
                    unfold opStep
                    rw [if_pos (by rfl)]
                    have dd := Lib.hid (HX.out.1 _ KQ)
                    have d0 := dd.out.1
                    have d1 := dd.out.2
                    go_simp
                    exact hK.out _ _ (Below.refl _ _) rfl _ rfl
                  case d13 =>
                    intro w4 hbw st  K hK
                    have KQ := KR3.out.trans (hbw.mono KR3.out.size)
                    simp only [Act.put, List.setIfInBounds_toArray, List.set_cons_zero, List.set_cons_succ] at hK ⊢
                    unfold opStep
                    rw [if_pos (by rfl)]
                    go_simp
                    exact hK.out _ _ (Below.refl _ _) rfl _ rfl
                  case d14 =>
                    intro w4 hbw st  K hK
                    have KQ := KR3.out.trans (hbw.mono KR3.out.size)
                    simp only [Act.put, List.setIfInBounds_toArray, List.set_cons_zero, List.set_cons_succ] at hK ⊢
                    unfold opStep
                    rw [if_pos (by rfl)]
                    go_simp
                    exact hK.out _ _ (Below.refl _ _) rfl _ rfl
                  case d15 =>
                    intro w4 hbw st  K hK
                    have KQ := KR3.out.trans (hbw.mono KR3.out.size)
                    simp only [Act.put, List.setIfInBounds_toArray, List.set_cons_zero, List.set_cons_succ] at hK ⊢
                    unfold opStep
                    rw [if_pos (by rfl)]
                    go_simp
                    exact hK.out _ _ (Below.refl _ _) rfl _ rfl
                  case d16 =>
                    intro w4 hbw st  K hK
                    have KQ := KR3.out.trans (hbw.mono KR3.out.size)
                    simp only [Act.put, List.setIfInBounds_toArray, List.set_cons_zero, List.set_cons_succ] at hK ⊢
                    unfold opStep
                    rw [if_pos (by rfl)]
                    go_simp
                    exact hK.out _ _ (Below.refl _ _) rfl _ rfl
                  case d17 =>
                    intro w4 hbw st  K hK
                    have KQ := KR3.out.trans (hbw.mono KR3.out.size)
                    simp only [Act.put, List.setIfInBounds_toArray, List.set_cons_zero, List.set_cons_succ] at hK ⊢
                    unfold opStep
                    rw [if_pos (by rfl)]
                    have dd := Lib.hid (HY.out.1 _ KQ)
                    have d0 := dd.out.1
                    have d1 := dd.out.2
                    go_simp
                    exact hK.out _ _ (Below.refl _ _) rfl _ rfl
                  case d18 =>
                    intro w4 hbw st  K hK
                    have KQ := KR3.out.trans (hbw.mono KR3.out.size)
                    simp only [Act.put, List.setIfInBounds_toArray, List.set_cons_zero, List.set_cons_succ] at hK ⊢
                    unfold opStep
                    rw [if_pos (by rfl)]
                    go_simp
                    exact hK.out _ _ (Below.refl _ _) rfl _ rfl
                  case d19 =>
                    intro w4 hbw st  K hK
                    have KQ := KR3.out.trans (hbw.mono KR3.out.size)
                    simp only [Act.put, List.setIfInBounds_toArray, List.set_cons_zero, List.set_cons_succ] at hK ⊢
                    unfold opStep
                    rw [if_pos (by rfl)]
                    go_simp
                    exact hK.out _ _ (Below.refl _ _) rfl _ rfl
                  case dfin =>
                    intro w4 hbw
                    try simp only [FinAll]
                    simp only [Act.put, List.setIfInBounds_toArray, List.set_cons_zero, List.set_cons_succ]
                    replace K3 := Lib.hid (K3.out.trans (hbw.mono K3.out.size))
                    clear hbw hxy HX HY KR3 HROW3 HCELL
                    have HROW4 := Lib.hid (below_row HROW2.out K3.out)
                    have KR4 := Lib.hid (KR.out.trans (K3.out.mono KR.out.size))
                    have HGW := Lib.hid (HROW4.out.lt g rfl).2
                    have hple : p ≤ l.length := by omega
                    clear HROW2 KR K3
                    obtain ⟨sa, hsa⟩ : ∃ sa : Option Addr, sa = (if c = p then some ⟨g, 0, none⟩ else some ⟨g, p, none⟩) := ⟨_, rfl⟩
                    obtain ⟨sad, hsad⟩ : ∃ sad : Addr, sa = some sad ∧ (p < l.length → sad = ⟨g, p, none⟩) := by
                      rw [hsa]
                      by_cases e : c = p
                      · rw [if_pos e]; exact ⟨_, rfl, fun h => by omega⟩
                      · rw [if_neg e]; exact ⟨_, rfl, fun _ => rfl⟩
                    have HSA := Lib.hid (And.intro hsa hsad)
                    clear hsa hsad
                    go_upto_region 14 with fail
                    refine region_inv W.heap.size (JW 4 8 9 10 (fun w => w.ownsRow W.heap.size 3 1 (.slice (some ⟨g, 0, none⟩) l.length c) l.length (l.map nv)) (fun u w => w.ownsRow W.heap.size 3 1 (.slice (some ⟨g, 0, none⟩) l.length c) l.length (l.map nv) ∧ w.ownsRow w4.heap.size 3 1 u 1 [nv k]) (fun u w => w.ownsRow W.heap.size 3 1 (.slice (some ⟨g, 0, none⟩) l.length c) l.length (l.map nv) ∧ w.ownsRow w4.heap.size 3 1 u (1 + (l.length - p)) ([nv k] ++ (l.map nv).drop p)) (fun u w => w.ownsRow W.heap.size 3 1 u (p + (1 + (l.length - p))) ((l.map nv).take p ++ ([nv k] ++ (l.map nv).drop p)))) [some (.slice (some ⟨g, 0, none⟩) l.length c), some (.int .i64 (p : Int)), some (.slice (some ⟨g, 0, none⟩) p c), some (.int .i64 (k : Int)), none, some (.slice (some ⟨g, 0, none⟩) l.length c), some (.int .i64 (p : Int)), some (.slice sa (l.length - p) (c - p)), none, none, none] (by kernel_rfl) rfl (by kernel_rfl) (by kernel_rfl) (JW.start HROW4.out) (.cons ?z0 (.cons ?z1 (.cons ?z2 (.cons ?z3 (.cons ?z4 (.cons ?z5 (.cons ?z6 (.cons ?z7 (.cons ?z8 (.cons ?z9 (.cons ?z10 .nil))))))))))) ?zfin
                    case z0 =>
                      intro wq hbw D st hJ hD hdp K hK
                      simp only [Act.put, List.setIfInBounds_toArray, List.set_cons_zero, List.set_cons_succ] at hK ⊢
                      unfold opStep
                      rw [if_pos (by rfl)]
                      go_simp
                      exact hK.out _ _ (Below.refl _ _) (fun u hu => Option.some.inj hu) (hJ.pure 0 _ (by decide) (by decide) (by decide) (by decide)) _ rfl
                    case z1 =>
                      intro wq hbw D st hJ hD hdp K hK
                      simp only [Act.put, List.setIfInBounds_toArray, List.set_cons_zero, List.set_cons_succ] at hK ⊢
                      unfold opStep
                      rw [if_pos (by rfl)]
                      go_simp
                      exact hK.out _ _ (Below.refl _ _) (fun u hu => Option.some.inj hu) (hJ.pure 1 _ (by decide) (by decide) (by decide) (by decide)) _ rfl
                    case z2 =>
                      intro wq hbw D st hJ hD hdp K hK
                      simp only [Act.put, List.setIfInBounds_toArray, List.set_cons_zero, List.set_cons_succ] at hK ⊢
                      unfold opStep
                      rw [if_pos (by rfl)]
                      go_simp
                      exact hK.out _ _ (Below.refl _ _) (fun u hu => Option.some.inj hu) (hJ.pure 2 _ (by decide) (by decide) (by decide) (by decide)) _ rfl
                    case z3 =>
                      intro wq hbw D st hJ hD hdp K hK
                      simp only [Act.put, List.setIfInBounds_toArray, List.set_cons_zero, List.set_cons_succ] at hK ⊢
                      unfold opStep
                      rw [if_pos (by rfl)]
                      go_simp
                      exact hK.out _ _ (Below.refl _ _) (fun u hu => Option.some.inj hu) (hJ.pure 3 _ (by decide) (by decide) (by decide) (by decide)) _ rfl
                    case z4 =>
                      intro wq hbw D st hJ hD hdp K hK
                      simp only [Act.put, List.setIfInBounds_toArray, List.set_cons_zero, List.set_cons_succ] at hK ⊢
                      unfold opStep
                      rw [if_pos (by rfl)]
                      go_simp
                      have hz := hJ.getz hD
                      exact hK.out _ _ ((Below.refl _ _).alloc (Nat.le_trans KR4.out.size hbw.size) _) (fun u hu => by cases hu) (hJ.s0 hD (by decide) (by decide) (by decide) ⟨hz.alloc _, row_new wq (nv k) hbw.size⟩) _ rfl
                    case z5 =>
                      intro wq hbw D st hJ hD hdp K hK
                      simp only [Act.put, List.setIfInBounds_toArray, List.set_cons_zero, List.set_cons_succ] at hK ⊢
                      unfold opStep
                      rw [if_pos (by rfl)]
                      go_simp
                      exact hK.out _ _ (Below.refl _ _) (fun u hu => Option.some.inj hu) (hJ.pure 5 _ (by decide) (by decide) (by decide) (by decide)) _ rfl
                    case z6 =>
                      intro wq hbw D st hJ hD hdp K hK
                      simp only [Act.put, List.setIfInBounds_toArray, List.set_cons_zero, List.set_cons_succ] at hK ⊢
                      unfold opStep
                      rw [if_pos (by rfl)]
                      go_simp
                      exact hK.out _ _ (Below.refl _ _) (fun u hu => Option.some.inj hu) (hJ.pure 6 _ (by decide) (by decide) (by decide) (by decide)) _ rfl
                    case z7 =>
                      intro wq hbw D st hJ hD hdp K hK
                      simp only [Act.put, List.setIfInBounds_toArray, List.set_cons_zero, List.set_cons_succ] at hK ⊢
                      unfold opStep
                      rw [if_pos (by rfl)]
                      go_simp
                      rw [← HSA.out.1]
                      exact hK.out _ _ (Below.refl _ _) (fun u hu => Option.some.inj hu) (hJ.pure 7 _ (by decide) (by decide) (by decide) (by decide)) _ rfl
                    case z8 =>
                      intro wq hbw D st hJ hD hdp K hK
                      simp only [Act.put, List.setIfInBounds_toArray, List.set_cons_zero, List.set_cons_succ] at hK ⊢
                      unfold opStep
                      rw [if_pos (by rfl)]
                      have d4 := hdp 4 (of_decide_eq_true (by kernel_rfl))
                      obtain ⟨h0, h1⟩ := hJ.get0 d4 hD
                      obtain ⟨i0, hinf, hz0, hz1, hz2⟩ := HI.out
                      obtain ⟨hs1, hs2⟩ := HSA.out.2
                      refine wp_append_own wq (.tmp 61) (.tmp 64) 25 rfl w4.heap.size 3 i0 (.int .i64 0) 1 8 Try.underlying25 hinf hz0 hz1 hz2 rfl (by decide) _ 1 [nv k] rfl h1 sad (l.length - p) (c - p) ((l.map nv).drop p) (congrArg (fun q => Value.slice q (l.length - p) (c - p)) hs1) (by simp) (row_tail h0 hs2) (fun u hu => by obtain ⟨q, _, rfl⟩ := List.mem_map.1 (List.mem_of_mem_drop hu); rfl) (by unfold maxLen; omega) (by omega) hbw.size ?_
                      intro v5 w5 r5 g5 _
                      have hne : Value.ownBlock (.slice (some ⟨g, 0, none⟩) l.length c) ≠ Value.ownBlock (st 4) := fun e => by have a1 := h0.lt g rfl; have a2 := h1.lt g e.symm; have a3 := HGW.out; omega
                      exact hK.out _ _ (below_own KR4.out.size h1 g5 hbw.size) (fun u hu => by cases hu) (hJ.s1 d4 hD (by decide) (by decide) (by decide) ⟨h0.kept g5 (.inr hne), r5⟩) _ rfl
                    case z9 =>
                      intro wq hbw D st hJ hD hdp K hK
                      simp only [Act.put, List.setIfInBounds_toArray, List.set_cons_zero, List.set_cons_succ] at hK ⊢
                      unfold opStep
                      rw [if_pos (by rfl)]
                      have d8 := hdp 8 (of_decide_eq_true (by kernel_rfl))
                      obtain ⟨h0, h1⟩ := hJ.get1 d8 hD
                      obtain ⟨i0, hinf, hz0, hz1, hz2⟩ := HI.out
                      obtain ⟨a8, c8, e8⟩ := row_slc h1
                      rw [e8] at h1
                      obtain ⟨g8, ea8, hg8, hc8⟩ := row_at h1 (by omega)
                      refine wp_append_own wq (.tmp 59) (.tmp 65) 25 rfl W.heap.size 3 i0 (.int .i64 0) 1 8 Try.underlying25 hinf hz0 hz1 hz2 rfl (by decide) (.slice (some ⟨g, 0, none⟩) p c) p ((l.map nv).take p) rfl (row_take h0 hple) ⟨g8, 0, none⟩ (1 + (l.length - p)) c8 ([nv k] ++ (l.map nv).drop p) (by show st 8 = _; rw [e8, ea8]) (by simp; omega) (fun j u hu => by rw [addr0]; exact hc8 wq (Below.refl _ _) j u hu) nvs_one (by unfold maxLen; omega) (by omega) (Nat.le_trans KR4.out.size hbw.size) ?_
                      intro v5 w5 r5 g5 _
                      exact hK.out _ _ (below_own (Nat.le_refl _) (row_take h0 hple) g5 (Nat.le_trans KR4.out.size hbw.size)) (fun u hu => by cases hu) (hJ.s2 d8 hD (by decide) (by decide) (by decide) r5) _ rfl
                    case z10 =>
                      intro wq hbw D st hJ hD hdp K hK
                      simp only [Act.put, List.setIfInBounds_toArray, List.set_cons_zero, List.set_cons_succ] at hK ⊢
                      unfold opStep
                      rw [if_pos (by rfl)]
                      go_simp
                      have d9 := hdp 9 (of_decide_eq_true (by kernel_rfl))
                      exact hK.out _ _ (Below.refl _ _) (fun u hu => by cases hu) (hJ.s3 d9 (by decide) (by decide) (by decide)) _ rfl
                    case zfin =>
                      intro wq hbw D st hall hJ
                      simp only [FinAll, lfOf]
                      simp only [Act.put, List.setIfInBounds_toArray, List.set_cons_zero, List.set_cons_succ]
                      have h2 := hJ.get2 (hall 10 (by decide))
                      have HB5 := Lib.hid (KR4.out.trans hbw)
                      have e2 : (insN t k l).map nv = (l.map nv).take p ++ ([nv k] ++ (l.map nv).drop p) := by rw [HEND.out]; simp [List.map_take, List.map_drop]
                      have e3 : (insN t k l).length = p + (1 + (l.length - p)) := by rw [HEND.out]; simp; omega
                      rw [← e2, ← e3] at h2
                      clear hJ hall e2 e3
                      generalize hx : st 10 = x10 at *
                      clear hx
                      obtain ⟨g5, e5, hg5⟩ : ∃ g5 c5, x10 = .slice (some ⟨g5, 0, none⟩) (insN t k l).length c5 := by
                        obtain ⟨a5, c5, e5⟩ := row_slc h2
                        rw [e5] at h2
                        obtain ⟨g5, e6, -⟩ := row_at h2 (by rw [HEND.out]; simp; omega)
                        exact ⟨g5, c5, by rw [e5, e6]⟩
                      subst hg5
                      have H2 := Lib.hid h2
                      clear h2 hbw
                      go_wp2
                      go_roundg (t.length - (k + 1))
                      case measure => have := HM.out; have := HLT.out; omega
                      case rel => exact ⟨k + 1, _, _, by have := HLT.out; omega, by rw [HST2.out], by go_num, by rw [HST2.out]; exact H2.out, HB5.out⟩
              · have hpl2 : ¬ (p : Int) < l.length := by omega
                have HEND := Lib.hid (HHALT.out fun h => absurd h hpl)
                clear HHALT HGO
                go_wp2_with fail
                refine region_left [.is (.int .i64 (p : Int)), .is (.slice (some ⟨g, 0, none⟩) l.length c), .is (.int .i64 (l.length : Int)), .is (.bool false), .is (.bool false), .is undef, .is undef, .is undef, .is undef, .is undef, .is undef, .is undef, .is undef, .is undef, .is undef, .is undef, .is undef, .is undef, .is undef, .is (.bool false)] (by kernel_rfl) rfl (by kernel_rfl) (by kernel_rfl) (.cons ?e0 (.cons ?e1 (.cons ?e2 (.cons ?e3 (.cons ?e4 (.cons ?e5 (.cons ?e6 (.cons ?e7 (.cons ?e8 (.cons ?e9 (.cons ?e10 (.cons ?e11 (.cons ?e12 (.cons ?e13 (.cons ?e14 (.cons ?e15 (.cons ?e16 (.cons ?e17 (.cons ?e18 (.cons ?e19 .nil)))))))))))))))))))) ?efin
                case e0 =>
                  intro w4 hbw st  K hK
                  simp only [Act.put, List.setIfInBounds_toArray, List.set_cons_zero, List.set_cons_succ] at hK ⊢
                  unfold opStep
                  rw [if_pos (by rfl)]
                  go_simp
                  exact hK.out _ _ (Below.refl _ _) rfl _ rfl
                case e1 =>
                  intro w4 hbw st  K hK
                  simp only [Act.put, List.setIfInBounds_toArray, List.set_cons_zero, List.set_cons_succ] at hK ⊢
                  unfold opStep
                  rw [if_pos (by rfl)]
                  go_simp
                  exact hK.out _ _ (Below.refl _ _) rfl _ rfl
                case e2 =>
                  intro w4 hbw st  K hK
                  simp only [Act.put, List.setIfInBounds_toArray, List.set_cons_zero, List.set_cons_succ] at hK ⊢
                  unfold opStep
                  rw [if_pos (by rfl)]
                  go_simp
                  exact hK.out _ _ (Below.refl _ _) rfl _ rfl
                case e3 =>
                  intro w4 hbw st  K hK
                  simp only [Act.put, List.setIfInBounds_toArray, List.set_cons_zero, List.set_cons_succ] at hK ⊢
                  unfold opStep
                  rw [if_pos (by rfl)]
                  go_simp
                  exact hK.out _ _ (Below.refl _ _) rfl _ rfl
                case e4 =>
                  intro w4 hbw st  K hK
                  simp only [Act.put, List.setIfInBounds_toArray, List.set_cons_zero, List.set_cons_succ] at hK ⊢
                  unfold opStep
                  rw [if_pos (by rfl)]
                  go_simp
                  exact hK.out _ _ (Below.refl _ _) rfl _ rfl
                case e5 =>
                  intro w4 hbw st  K hK
                  simp only [Act.put, List.setIfInBounds_toArray, List.set_cons_zero, List.set_cons_succ] at hK ⊢
                  unfold opStep
                  rw [if_neg (by change ¬ (false = true); exact Bool.false_ne_true)]
                  exact hK.out _ _ (Below.refl _ _) rfl _ rfl
                case e6 =>
                  intro w4 hbw st  K hK
                  simp only [Act.put, List.setIfInBounds_toArray, List.set_cons_zero, List.set_cons_succ] at hK ⊢
                  unfold opStep
                  rw [if_neg (by change ¬ (false = true); exact Bool.false_ne_true)]
                  exact hK.out _ _ (Below.refl _ _) rfl _ rfl
                case e7 =>
                  intro w4 hbw st  K hK
                  simp only [Act.put, List.setIfInBounds_toArray, List.set_cons_zero, List.set_cons_succ] at hK ⊢
                  unfold opStep
                  rw [if_neg (by change ¬ (false = true); exact Bool.false_ne_true)]
                  exact hK.out _ _ (Below.refl _ _) rfl _ rfl
                case e8 =>
                  intro w4 hbw st  K hK
                  simp only [Act.put, List.setIfInBounds_toArray, List.set_cons_zero, List.set_cons_succ] at hK ⊢
                  unfold opStep
                  rw [if_neg (by change ¬ (false = true); exact Bool.false_ne_true)]
                  exact hK.out _ _ (Below.refl _ _) rfl _ rfl
                case e9 =>
                  intro w4 hbw st  K hK
                  simp only [Act.put, List.setIfInBounds_toArray, List.set_cons_zero, List.set_cons_succ] at hK ⊢
                  unfold opStep
                  rw [if_neg (by change ¬ (false = true); exact Bool.false_ne_true)]
                  exact hK.out _ _ (Below.refl _ _) rfl _ rfl
                case e10 =>
                  intro w4 hbw st  K hK
                  simp only [Act.put, List.setIfInBounds_toArray, List.set_cons_zero, List.set_cons_succ] at hK ⊢
                  unfold opStep
                  rw [if_neg (by change ¬ (false = true); exact Bool.false_ne_true)]
                  exact hK.out _ _ (Below.refl _ _) rfl _ rfl
                case e11 =>
                  intro w4 hbw st  K hK
                  simp only [Act.put, List.setIfInBounds_toArray, List.set_cons_zero, List.set_cons_succ] at hK ⊢
                  unfold opStep
                  rw [if_neg (by change ¬ (false = true); exact Bool.false_ne_true)]
                  exact hK.out _ _ (Below.refl _ _) rfl _ rfl
                case e12 =>
                  intro w4 hbw st  K hK
                  simp only [Act.put, List.setIfInBounds_toArray, List.set_cons_zero, List.set_cons_succ] at hK ⊢
                  unfold opStep
                  rw [if_neg (by change ¬ (false = true); exact Bool.false_ne_true)]
                  exact hK.out _ _ (Below.refl _ _) rfl _ rfl
                case e13 =>
                  intro w4 hbw st  K hK
                  simp only [Act.put, List.setIfInBounds_toArray, List.set_cons_zero, List.set_cons_succ] at hK ⊢
                  unfold opStep
                  rw [if_neg (by change ¬ (false = true); exact Bool.false_ne_true)]
                  exact hK.out _ _ (Below.refl _ _) rfl _ rfl
                case e14 =>
                  intro w4 hbw st  K hK
                  simp only [Act.put, List.setIfInBounds_toArray, List.set_cons_zero, List.set_cons_succ] at hK ⊢
                  unfold opStep
                  rw [if_neg (by change ¬ (false = true); exact Bool.false_ne_true)]
                  exact hK.out _ _ (Below.refl _ _) rfl _ rfl
                case e15 =>
                  intro w4 hbw st  K hK
                  simp only [Act.put, List.setIfInBounds_toArray, List.set_cons_zero, List.set_cons_succ] at hK ⊢
                  unfold opStep
                  rw [if_neg (by change ¬ (false = true); exact Bool.false_ne_true)]
                  exact hK.out _ _ (Below.refl _ _) rfl _ rfl
                case e16 =>
                  intro w4 hbw st  K hK
                  simp only [Act.put, List.setIfInBounds_toArray, List.set_cons_zero, List.set_cons_succ] at hK ⊢
                  unfold opStep
                  rw [if_neg (by change ¬ (false = true); exact Bool.false_ne_true)]
                  exact hK.out _ _ (Below.refl _ _) rfl _ rfl
                case e17 =>
                  intro w4 hbw st  K hK
                  simp only [Act.put, List.setIfInBounds_toArray, List.set_cons_zero, List.set_cons_succ] at hK ⊢
                  unfold opStep
                  rw [if_neg (by change ¬ (false = true); exact Bool.false_ne_true)]
                  exact hK.out _ _ (Below.refl _ _) rfl _ rfl
                case e18 =>
                  intro w4 hbw st  K hK
                  simp only [Act.put, List.setIfInBounds_toArray, List.set_cons_zero, List.set_cons_succ] at hK ⊢
                  unfold opStep
                  rw [if_neg (by change ¬ (false = true); exact Bool.false_ne_true)]
                  exact hK.out _ _ (Below.refl _ _) rfl _ rfl
                case e19 =>
                  intro w4 hbw st  K hK
                  simp only [Act.put, List.setIfInBounds_toArray, List.set_cons_zero, List.set_cons_succ] at hK ⊢
                  unfold opStep
                  rw [if_pos (by rfl)]
                  go_simp
                  exact hK.out _ _ (Below.refl _ _) rfl _ rfl
                case efin =>
                  intro w4 hbw
                  try simp only [FinAll]
                  simp only [Act.put, List.setIfInBounds_toArray, List.set_cons_zero, List.set_cons_succ]
                  replace K3 := Lib.hid (K3.out.trans (hbw.mono K3.out.size))
                  clear hbw KR3 HROW3
                  have HROW4 := Lib.hid (below_row HROW2.out K3.out)
                  have KR4 := Lib.hid (KR.out.trans (K3.out.mono KR.out.size))
                  have HGW := Lib.hid (HROW4.out.lt g rfl).2
                  have hple : p ≤ l.length := by omega
                  clear HROW2 KR K3
                  obtain ⟨sa, hsa⟩ : ∃ sa : Option Addr, sa = (if c = p then some ⟨g, 0, none⟩ else some ⟨g, p, none⟩) := ⟨_, rfl⟩
                  obtain ⟨sad, hsad⟩ : ∃ sad : Addr, sa = some sad ∧ (p < l.length → sad = ⟨g, p, none⟩) := by
                    rw [hsa]
                    by_cases e : c = p
                    · rw [if_pos e]; exact ⟨_, rfl, fun h => by omega⟩
                    · rw [if_neg e]; exact ⟨_, rfl, fun _ => rfl⟩
                  have HSA := Lib.hid (And.intro hsa hsad)
                  clear hsa hsad
                  go_upto_region 14 with fail
                  refine region_inv W.heap.size (JW 4 8 9 10 (fun w => w.ownsRow W.heap.size 3 1 (.slice (some ⟨g, 0, none⟩) l.length c) l.length (l.map nv)) (fun u w => w.ownsRow W.heap.size 3 1 (.slice (some ⟨g, 0, none⟩) l.length c) l.length (l.map nv) ∧ w.ownsRow w4.heap.size 3 1 u 1 [nv k]) (fun u w => w.ownsRow W.heap.size 3 1 (.slice (some ⟨g, 0, none⟩) l.length c) l.length (l.map nv) ∧ w.ownsRow w4.heap.size 3 1 u (1 + (l.length - p)) ([nv k] ++ (l.map nv).drop p)) (fun u w => w.ownsRow W.heap.size 3 1 u (p + (1 + (l.length - p))) ((l.map nv).take p ++ ([nv k] ++ (l.map nv).drop p)))) [some (.slice (some ⟨g, 0, none⟩) l.length c), some (.int .i64 (p : Int)), some (.slice (some ⟨g, 0, none⟩) p c), some (.int .i64 (k : Int)), none, some (.slice (some ⟨g, 0, none⟩) l.length c), some (.int .i64 (p : Int)), some (.slice sa (l.length - p) (c - p)), none, none, none] (by kernel_rfl) rfl (by kernel_rfl) (by kernel_rfl) (JW.start HROW4.out) (.cons ?z0 (.cons ?z1 (.cons ?z2 (.cons ?z3 (.cons ?z4 (.cons ?z5 (.cons ?z6 (.cons ?z7 (.cons ?z8 (.cons ?z9 (.cons ?z10 .nil))))))))))) ?zfin
                  case z0 =>
                    intro wq hbw D st hJ hD hdp K hK
                    simp only [Act.put, List.setIfInBounds_toArray, List.set_cons_zero, List.set_cons_succ] at hK ⊢
                    unfold opStep
                    rw [if_pos (by rfl)]
                    go_simp
                    exact hK.out _ _ (Below.refl _ _) (fun u hu => Option.some.inj hu) (hJ.pure 0 _ (by decide) (by decide) (by decide) (by decide)) _ rfl
                  case z1 =>
                    intro wq hbw D st hJ hD hdp K hK
                    simp only [Act.put, List.setIfInBounds_toArray, List.set_cons_zero, List.set_cons_succ] at hK ⊢
                    unfold opStep
                    rw [if_pos (by rfl)]
                    go_simp
                    exact hK.out _ _ (Below.refl _ _) (fun u hu => Option.some.inj hu) (hJ.pure 1 _ (by decide) (by decide) (by decide) (by decide)) _ rfl
                  case z2 =>
                    intro wq hbw D st hJ hD hdp K hK
                    simp only [Act.put, List.setIfInBounds_toArray, List.set_cons_zero, List.set_cons_succ] at hK ⊢
                    unfold opStep
                    rw [if_pos (by rfl)]
                    go_simp
                    exact hK.out _ _ (Below.refl _ _) (fun u hu => Option.some.inj hu) (hJ.pure 2 _ (by decide) (by decide) (by decide) (by decide)) _ rfl
                  case z3 =>
                    intro wq hbw D st hJ hD hdp K hK
                    simp only [Act.put, List.setIfInBounds_toArray, List.set_cons_zero, List.set_cons_succ] at hK ⊢
                    unfold opStep
                    rw [if_pos (by rfl)]
                    go_simp
                    exact hK.out _ _ (Below.refl _ _) (fun u hu => Option.some.inj hu) (hJ.pure 3 _ (by decide) (by decide) (by decide) (by decide)) _ rfl
                  case z4 =>
                    intro wq hbw D st hJ hD hdp K hK
                    simp only [Act.put, List.setIfInBounds_toArray, List.set_cons_zero, List.set_cons_succ] at hK ⊢
                    unfold opStep
                    rw [if_pos (by rfl)]
                    go_simp
                    have hz := hJ.getz hD
                    exact hK.out _ _ ((Below.refl _ _).alloc (Nat.le_trans KR4.out.size hbw.size) _) (fun u hu => by cases hu) (hJ.s0 hD (by decide) (by decide) (by decide) ⟨hz.alloc _, row_new wq (nv k) hbw.size⟩) _ rfl
                  case z5 =>
                    intro wq hbw D st hJ hD hdp K hK
                    simp only [Act.put, List.setIfInBounds_toArray, List.set_cons_zero, List.set_cons_succ] at hK ⊢
                    unfold opStep
                    rw [if_pos (by rfl)]
                    go_simp
                    exact hK.out _ _ (Below.refl _ _) (fun u hu => Option.some.inj hu) (hJ.pure 5 _ (by decide) (by decide) (by decide) (by decide)) _ rfl
                  case z6 =>
                    intro wq hbw D st hJ hD hdp K hK
                    simp only [Act.put, List.setIfInBounds_toArray, List.set_cons_zero, List.set_cons_succ] at hK ⊢
                    unfold opStep
                    rw [if_pos (by rfl)]
                    go_simp
                    exact hK.out _ _ (Below.refl _ _) (fun u hu => Option.some.inj hu) (hJ.pure 6 _ (by decide) (by decide) (by decide) (by decide)) _ rfl
                  case z7 =>
                    intro wq hbw D st hJ hD hdp K hK
                    simp only [Act.put, List.setIfInBounds_toArray, List.set_cons_zero, List.set_cons_succ] at hK ⊢
                    unfold opStep
                    rw [if_pos (by rfl)]
                    go_simp
                    rw [← HSA.out.1]
                    exact hK.out _ _ (Below.refl _ _) (fun u hu => Option.some.inj hu) (hJ.pure 7 _ (by decide) (by decide) (by decide) (by decide)) _ rfl
                  case z8 =>
                    intro wq hbw D st hJ hD hdp K hK
                    simp only [Act.put, List.setIfInBounds_toArray, List.set_cons_zero, List.set_cons_succ] at hK ⊢
                    unfold opStep
                    rw [if_pos (by rfl)]
                    have d4 := hdp 4 (of_decide_eq_true (by kernel_rfl))
                    obtain ⟨h0, h1⟩ := hJ.get0 d4 hD
                    obtain ⟨i0, hinf, hz0, hz1, hz2⟩ := HI.out
                    obtain ⟨hs1, hs2⟩ := HSA.out.2
                    refine wp_append_own wq (.tmp 61) (.tmp 64) 25 rfl w4.heap.size 3 i0 (.int .i64 0) 1 8 Try.underlying25 hinf hz0 hz1 hz2 rfl (by decide) _ 1 [nv k] rfl h1 sad (l.length - p) (c - p) ((l.map nv).drop p) (congrArg (fun q => Value.slice q (l.length - p) (c - p)) hs1) (by simp) (row_tail h0 hs2) (fun u hu => by obtain ⟨q, _, rfl⟩ := List.mem_map.1 (List.mem_of_mem_drop hu); rfl) (by unfold maxLen; omega) (by omega) hbw.size ?_
                    intro v5 w5 r5 g5 _
                    have hne : Value.ownBlock (.slice (some ⟨g, 0, none⟩) l.length c) ≠ Value.ownBlock (st 4) := fun e => by have a1 := h0.lt g rfl; have a2 := h1.lt g e.symm; have a3 := HGW.out; omega
                    exact hK.out _ _ (below_own KR4.out.size h1 g5 hbw.size) (fun u hu => by cases hu) (hJ.s1 d4 hD (by decide) (by decide) (by decide) ⟨h0.kept g5 (.inr hne), r5⟩) _ rfl
                  case z9 =>
                    intro wq hbw D st hJ hD hdp K hK
                    simp only [Act.put, List.setIfInBounds_toArray, List.set_cons_zero, List.set_cons_succ] at hK ⊢
                    unfold opStep
                    rw [if_pos (by rfl)]
                    have d8 := hdp 8 (of_decide_eq_true (by kernel_rfl))
                    obtain ⟨h0, h1⟩ := hJ.get1 d8 hD
                    obtain ⟨i0, hinf, hz0, hz1, hz2⟩ := HI.out
                    obtain ⟨a8, c8, e8⟩ := row_slc h1
                    rw [e8] at h1
                    obtain ⟨g8, ea8, hg8, hc8⟩ := row_at h1 (by omega)
                    refine wp_append_own wq (.tmp 59) (.tmp 65) 25 rfl W.heap.size 3 i0 (.int .i64 0) 1 8 Try.underlying25 hinf hz0 hz1 hz2 rfl (by decide) (.slice (some ⟨g, 0, none⟩) p c) p ((l.map nv).take p) rfl (row_take h0 hple) ⟨g8, 0, none⟩ (1 + (l.length - p)) c8 ([nv k] ++ (l.map nv).drop p) (by show st 8 = _; rw [e8, ea8]) (by simp; omega) (fun j u hu => by rw [addr0]; exact hc8 wq (Below.refl _ _) j u hu) nvs_one (by unfold maxLen; omega) (by omega) (Nat.le_trans KR4.out.size hbw.size) ?_
                    intro v5 w5 r5 g5 _
                    exact hK.out _ _ (below_own (Nat.le_refl _) (row_take h0 hple) g5 (Nat.le_trans KR4.out.size hbw.size)) (fun u hu => by cases hu) (hJ.s2 d8 hD (by decide) (by decide) (by decide) r5) _ rfl
                  case z10 =>
                    intro wq hbw D st hJ hD hdp K hK
                    simp only [Act.put, List.setIfInBounds_toArray, List.set_cons_zero, List.set_cons_succ] at hK ⊢
                    unfold opStep
                    rw [if_pos (by rfl)]
                    go_simp
                    have d9 := hdp 9 (of_decide_eq_true (by kernel_rfl))
                    exact hK.out _ _ (Below.refl _ _) (fun u hu => by cases hu) (hJ.s3 d9 (by decide) (by decide) (by decide)) _ rfl
                  case zfin =>
                    intro wq hbw D st hall hJ
                    simp only [FinAll, lfOf]
                    simp only [Act.put, List.setIfInBounds_toArray, List.set_cons_zero, List.set_cons_succ]
                    have h2 := hJ.get2 (hall 10 (by decide))
                    have HB5 := Lib.hid (KR4.out.trans hbw)
                    have e2 : (insN t k l).map nv = (l.map nv).take p ++ ([nv k] ++ (l.map nv).drop p) := by rw [HEND.out]; simp [List.map_take, List.map_drop]
                    have e3 : (insN t k l).length = p + (1 + (l.length - p)) := by rw [HEND.out]; simp; omega
                    rw [← e2, ← e3] at h2
                    clear hJ hall e2 e3
                    generalize hx : st 10 = x10 at *
                    clear hx
                    obtain ⟨g5, e5, hg5⟩ : ∃ g5 c5, x10 = .slice (some ⟨g5, 0, none⟩) (insN t k l).length c5 := by
                      obtain ⟨a5, c5, e5⟩ := row_slc h2
                      rw [e5] at h2
                      obtain ⟨g5, e6, -⟩ := row_at h2 (by rw [HEND.out]; simp; omega)
                      exact ⟨g5, c5, by rw [e5, e6]⟩
                    subst hg5
                    have H2 := Lib.hid h2
                    clear h2 hbw
                    go_wp2
                    go_roundg (t.length - (k + 1))
                    case measure => have := HM.out; have := HLT.out; omega
                    case rel => exact ⟨k + 1, _, _, by have := HLT.out; omega, by rw [HST2.out], by go_num, by rw [HST2.out]; exact H2.out, HB5.out⟩
    · have e : i = t.length := by have := HM.out; omega
      subst e
      have hii : ¬ (t.length : Int) < (t.length : Int) := by omega
      have HF2 := Lib.hid (HFIN.out rfl)
      clear HFIN
      go_wp2
      go_ret
      exact ⟨_, rfl, HF2.out, KW.out⟩
end Go.Proofs.Ytfdicndmebhmdaa
