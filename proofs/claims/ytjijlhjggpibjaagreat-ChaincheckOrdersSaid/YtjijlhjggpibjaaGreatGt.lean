/-
  Chapter 55: unknown of the reference.
-/
import Derived.Test.YtjijlhjggpibjaaGreatGs
namespace Go.Proofs.YtjijlhjggpibjaaGreat
open Go.RowKit

/-- Whether an update of the first operations adds it. -/
def fnd (h : List Opn) (s : Str) (k : Nat) : Bool := (h.take k).any fun u => upO u && decide (s ∈ addO u)
theorem fnd_snoc {h : List Opn} {s : Str} {k : Nat} (hk : k < h.length) : fnd h s (k + 1) = (fnd h s k || (upO h[k] && decide (s ∈ addO h[k]))) := by
  unfold fnd
  rw [List.take_succ_eq_append_getElem hk, List.any_append]; simp
theorem unk_no {h : List Opn} {o : Opn} (hn : ∀ i (hi : i < (seeO o).length), fnd h (seeO o)[i] h.length = true) : unkO h o = false := by
  unfold unkO
  rw [List.any_eq_false]
  intro s hs
  obtain ⟨i, hi, rfl⟩ := List.getElem_of_mem hs
  have := hn i hi
  unfold fnd at this
  rw [List.take_length] at this
  rw [this]; decide
theorem unk_yes {h : List Opn} {o : Opn} {i : Nat} (hi : i < (seeO o).length) (hf : fnd h (seeO o)[i] h.length = false) : unkO h o = true := by
  unfold unkO
  rw [List.any_eq_true]
  refine ⟨(seeO o)[i], List.getElem_mem hi, ?_⟩
  unfold fnd at hf
  rw [List.take_length] at hf
  rw [hf]; rfl

set_option maxRecDepth 100000 in
set_option maxHeartbeats 16000000 in
theorem unknown_any (hv v : Value) (h : List Opn) (x : Opn) (W : World) (hr : ReadsO W hv h) (hx : OpAt W v x) (hs : SmallH h) (hfx : fitO x) (hst : ∀ s ∈ seeO x, s.length ≤ maxLen) : Calls Tryz.prog 62 #[hv, v] W (BoolMade W (unkO h x)) := by
  have HR := Lib.hid hr
  have HS := Lib.hid hs
  have hn := hs.1
  obtain ⟨ao, cap, rfl, hl, hm, -, -⟩ := hr
  unfold maxLen at hm
  obtain ⟨va, vz, rfl, ra, rz⟩ := hx
  obtain ⟨xa, na, ca, rfl⟩ := Slc.of_reads ra
  obtain ⟨ya, ma, rfl, hmz, hnz⟩ : ∃ a k, vz = .slice a (seeO x).length k ∧ k ≤ 9223372036854775807 ∧ (seeO x).length ≤ k := by
    obtain ⟨a, k, rfl, h1, h2, _⟩ := rz
    unfold maxLen at h2
    exact ⟨a, k, rfl, by omega, h1⟩
  have hxl := hfx.2
  have HST := Lib.hid hst
  clear hs hfx hst
  have HB0 : Hid (Below W.heap.size W (W.alloc (.cells #[.int .i64 (cliO x), .int .i64 (kindO x), .int .i64 (begO x), .int .i64 (endO x), .slice xa na ca, .slice ya (seeO x).length ma] 39))) := Lib.hid ((Below.refl _ _).alloc (Nat.le_refl _) _)
  have HX0 : Hid (BoxO (W.alloc (.cells #[.int .i64 (cliO x), .int .i64 (kindO x), .int .i64 (begO x), .int .i64 (endO x), .slice xa na ca, .slice ya (seeO x).length ma] 39)) W.heap.size x (.slice xa na ca) (.slice ya (seeO x).length ma)) := Lib.hid ⟨Blk.new _ _ _, ra.keep HB0.out, rz.keep HB0.out⟩
  have HRZ := Lib.hid rz
  obtain ⟨res, hres⟩ : ∃ z, z = unkO h x := ⟨_, rfl⟩
  have HNO : Hid ((∀ i (hi : i < (seeO x).length), fnd h (seeO x)[i] h.length = true) → res = false) := Lib.hid fun q => hres.trans (unk_no q)
  have HYE : Hid (∀ i (hi : i < (seeO x).length), fnd h (seeO x)[i] h.length = false → res = true) := Lib.hid fun i hi q => hres.trans (unk_yes hi q)
  rw [← hres]
  clear ra rz hres
  unfold opV
  go_enter Tryz.func62, Tryz.ntmps62
  go_wp2
  generalize hse : seeO x = se at *
  go_loopg [5] se.length (fun m i wr => ∃ q : Nat, m + q = se.length ∧ i = .int .i64 ((q : Nat) : Int) ∧ BoxO wr W.heap.size x (.slice xa na ca) (.slice ya se.length ma) ∧ Below W.heap.size W wr ∧ ∀ i (hi : i < se.length), i < q → fnd h se[i] h.length = true)
  case atStart => exact ⟨0, by omega, rfl, HX0.out, HB0.out, fun i hi h0 => by omega⟩
  case round =>
    clear HX0 HB0
    obtain ⟨q, hmq, rfl, hbox, hbel, hall⟩ := hrel
    have HM := Lib.hid hmq
    have HX := Lib.hid hbox
    have KW := Lib.hid hbel
    have HALL := Lib.hid hall
    have hq : q ≤ se.length := by omega
    obtain ⟨c0, c1, c2, c3, c4, c5, hltx⟩ := blk6 hbox.1
    clear hmq hbox hbel hall
    by_cases hql : q < se.length
    · have hqi : (q : Int) < se.length := by omega
      have hq0 : (0 : Int) ≤ (q : Int) := by omega
      obtain ⟨bs, os, cs, hvs, hbs, hcs⟩ := str_at HRZ.out (k := q) hql
      injection hvs with e1 e2 e3
      subst e1
      have HCS : Hid (∀ wq, Below W.heap.size W wq → wq.cell? ⟨bs, os + q, none⟩ = some (vs se[q])) := Lib.hid fun wq hq => (hq.cell (p := ⟨bs, os + q, none⟩) hbs).trans hcs
      have HYQ := Lib.hid (HYE.out q hql)
      have HNQ : Hid (fnd h se[q] h.length = true → ∀ i (hi : i < se.length), i < q + 1 → fnd h se[i] h.length = true) := Lib.hid fun h1 i hi hlt => by
        by_cases e : i = q
        · subst e; exact h1
        · exact HALL.out i hi (by omega)
      have hsl := HST.out _ (List.getElem_mem hql)
      clear e2 e3 hbs hcs
      generalize se[q] = s at *
      clear hql
      go_wp2
      obtain ⟨wo, hwo⟩ : ∃ x, x = wr := ⟨_, rfl⟩
      rw [← hwo] at HX KW c0 c1 c2 c3 c4 c5 hltx ⊢
      clear hwo c0 c1 c2 c3 c4 c5 hltx
      obtain ⟨G4, hG4⟩ : ∃ G, G = gk := ⟨_, rfl⟩
      subst hG4
      go_loopg [6, 7] h.length (fun m f i wr => ∃ k : Nat, m + k = h.length ∧ i = .int .i64 ((k : Nat) : Int) ∧ f = .bool (fnd h s k) ∧ BoxO wr W.heap.size x (.slice xa na ca) (.slice (some ⟨bs, os, none⟩) se.length ma) ∧ Below W.heap.size W wr)
      case atStart => exact ⟨0, by omega, rfl, rfl, HX.out, KW.out⟩
      case round =>
        clear HX KW
        obtain ⟨k, hmk, rfl, rfl, hbox, hbel⟩ := hrel
        have HM4 := Lib.hid hmk
        have HX := Lib.hid hbox
        have KW := Lib.hid hbel
        have hk : k ≤ h.length := by omega
        clear hmk hbox hbel
        by_cases hkl : k < h.length
        · obtain ⟨b, off, cap1, a4, c4, a5, c5, hv, _, _, hm4, hm5, hl4, hl5, hcell, r1, r2⟩ := HR.out.at2 hkl
          injection hv with e1 e2 e3
          subst e1
          have hki : (k : Int) < h.length := by omega
          have hk0 : (0 : Int) ≤ (k : Int) := by omega
          have HN := Lib.hid (And.intro hcell (And.intro r1 r2))
          have HFS := Lib.hid (fnd_snoc (s := s) hkl)
          clear e2 e3 hcell r1 r2
          generalize h[k] = y at *
          clear hkl
          have mixed : Tryz.prog.follows .mixedOrders = true := by kernel_rfl
          cases hf : fnd h s k with
          | true =>
            have HG : Hid (fnd h s (k + 1) = true) := Lib.hid (by rw [HFS.out, hf]; rfl)
            clear hf HFS
            go_upto_region 8 with fail
            refine region_left [.is (.bool true), .is (.bool true), .is undef, .is undef, .is undef, .is undef, .is undef, .is undef, .is undef, .is undef, .is undef, .is undef, .is undef, .is undef, .is undef, .is undef, .is undef, .is undef, .is undef, .is undef, .is (.bool true), .is (.bool true)] (by kernel_rfl) rfl (by kernel_rfl) (by kernel_rfl) (.cons ?r1_0 (.cons ?r1_1 (.cons ?r1_2 (.cons ?r1_3 (.cons ?r1_4 (.cons ?r1_5 (.cons ?r1_6 (.cons ?r1_7 (.cons ?r1_8 (.cons ?r1_9 (.cons ?r1_10 (.cons ?r1_11 (.cons ?r1_12 (.cons ?r1_13 (.cons ?r1_14 (.cons ?r1_15 (.cons ?r1_16 (.cons ?r1_17 (.cons ?r1_18 (.cons ?r1_19 (.cons ?r1_20 (.cons ?r1_21 .nil)))))))))))))))))))))) ?r1_fin
            case r1_0 =>
              intro wq hbw st  K hK
              have KQ := KW.out.trans (hbw.mono KW.out.size)
              simp only [Act.put, List.setIfInBounds_toArray, List.set_cons_zero, List.set_cons_succ] at hK ⊢
              unfold opStep
              rw [if_pos (by rfl)]
              go_simp
              exact hK.out _ _ (Below.refl _ _) rfl _ rfl
            case r1_1 =>
              intro wq hbw st  K hK
              have KQ := KW.out.trans (hbw.mono KW.out.size)
              simp only [Act.put, List.setIfInBounds_toArray, List.set_cons_zero, List.set_cons_succ] at hK ⊢
              unfold opStep
              rw [if_pos (by rfl)]
              go_simp
              exact hK.out _ _ (Below.refl _ _) rfl _ rfl
            case r1_2 =>
              intro wq hbw st  K hK
              have KQ := KW.out.trans (hbw.mono KW.out.size)
              simp only [Act.put, List.setIfInBounds_toArray, List.set_cons_zero, List.set_cons_succ] at hK ⊢
              unfold opStep
              rw [if_neg (by change ¬ (false = true); exact Bool.false_ne_true)]
              exact hK.out _ _ (Below.refl _ _) rfl _ rfl
            case r1_3 =>
              intro wq hbw st  K hK
              have KQ := KW.out.trans (hbw.mono KW.out.size)
              simp only [Act.put, List.setIfInBounds_toArray, List.set_cons_zero, List.set_cons_succ] at hK ⊢
              unfold opStep
              rw [if_neg (by change ¬ (false = true); exact Bool.false_ne_true)]
              exact hK.out _ _ (Below.refl _ _) rfl _ rfl
            case r1_4 =>
              intro wq hbw st  K hK
              have KQ := KW.out.trans (hbw.mono KW.out.size)
              simp only [Act.put, List.setIfInBounds_toArray, List.set_cons_zero, List.set_cons_succ] at hK ⊢
              unfold opStep
              rw [if_neg (by change ¬ (false = true); exact Bool.false_ne_true)]
              exact hK.out _ _ (Below.refl _ _) rfl _ rfl
            case r1_5 =>
              intro wq hbw st  K hK
              have KQ := KW.out.trans (hbw.mono KW.out.size)
              simp only [Act.put, List.setIfInBounds_toArray, List.set_cons_zero, List.set_cons_succ] at hK ⊢
              unfold opStep
              rw [if_neg (by change ¬ (false = true); exact Bool.false_ne_true)]
              exact hK.out _ _ (Below.refl _ _) rfl _ rfl
            case r1_6 =>
              intro wq hbw st  K hK
              have KQ := KW.out.trans (hbw.mono KW.out.size)
              simp only [Act.put, List.setIfInBounds_toArray, List.set_cons_zero, List.set_cons_succ] at hK ⊢
              unfold opStep
              rw [if_neg (by change ¬ (false = true); exact Bool.false_ne_true)]
              exact hK.out _ _ (Below.refl _ _) rfl _ rfl
            case r1_7 =>
              intro wq hbw st  K hK
              have KQ := KW.out.trans (hbw.mono KW.out.size)
              simp only [Act.put, List.setIfInBounds_toArray, List.set_cons_zero, List.set_cons_succ] at hK ⊢
              unfold opStep
              rw [if_neg (by change ¬ (false = true); exact Bool.false_ne_true)]
              exact hK.out _ _ (Below.refl _ _) rfl _ rfl
            case r1_8 =>
              intro wq hbw st  K hK
              have KQ := KW.out.trans (hbw.mono KW.out.size)
              simp only [Act.put, List.setIfInBounds_toArray, List.set_cons_zero, List.set_cons_succ] at hK ⊢
              unfold opStep
              rw [if_neg (by change ¬ (false = true); exact Bool.false_ne_true)]
              exact hK.out _ _ (Below.refl _ _) rfl _ rfl
            case r1_9 =>
              intro wq hbw st  K hK
              have KQ := KW.out.trans (hbw.mono KW.out.size)
              simp only [Act.put, List.setIfInBounds_toArray, List.set_cons_zero, List.set_cons_succ] at hK ⊢
              unfold opStep
              rw [if_neg (by change ¬ (false = true); exact Bool.false_ne_true)]
              exact hK.out _ _ (Below.refl _ _) rfl _ rfl
            case r1_10 =>
              intro wq hbw st  K hK
              have KQ := KW.out.trans (hbw.mono KW.out.size)
              simp only [Act.put, List.setIfInBounds_toArray, List.set_cons_zero, List.set_cons_succ] at hK ⊢
              unfold opStep
              rw [if_neg (by change ¬ (false = true); exact Bool.false_ne_true)]
              exact hK.out _ _ (Below.refl _ _) rfl _ rfl
            case r1_11 =>
              intro wq hbw st  K hK
              have KQ := KW.out.trans (hbw.mono KW.out.size)
              simp only [Act.put, List.setIfInBounds_toArray, List.set_cons_zero, List.set_cons_succ] at hK ⊢
              unfold opStep
              rw [if_neg (by change ¬ (false = true); exact Bool.false_ne_true)]
              exact hK.out _ _ (Below.refl _ _) rfl _ rfl
            case r1_12 =>
              intro wq hbw st  K hK
              have KQ := KW.out.trans (hbw.mono KW.out.size)
              simp only [Act.put, List.setIfInBounds_toArray, List.set_cons_zero, List.set_cons_succ] at hK ⊢
              unfold opStep
              rw [if_neg (by change ¬ (false = true); exact Bool.false_ne_true)]
              exact hK.out _ _ (Below.refl _ _) rfl _ rfl
            case r1_13 =>
              intro wq hbw st  K hK
              have KQ := KW.out.trans (hbw.mono KW.out.size)
              simp only [Act.put, List.setIfInBounds_toArray, List.set_cons_zero, List.set_cons_succ] at hK ⊢
              unfold opStep
              rw [if_neg (by change ¬ (false = true); exact Bool.false_ne_true)]
              exact hK.out _ _ (Below.refl _ _) rfl _ rfl
            case r1_14 =>
              intro wq hbw st  K hK
              have KQ := KW.out.trans (hbw.mono KW.out.size)
              simp only [Act.put, List.setIfInBounds_toArray, List.set_cons_zero, List.set_cons_succ] at hK ⊢
              unfold opStep
              rw [if_neg (by change ¬ (false = true); exact Bool.false_ne_true)]
              exact hK.out _ _ (Below.refl _ _) rfl _ rfl
            case r1_15 =>
              intro wq hbw st  K hK
              have KQ := KW.out.trans (hbw.mono KW.out.size)
              simp only [Act.put, List.setIfInBounds_toArray, List.set_cons_zero, List.set_cons_succ] at hK ⊢
              unfold opStep
              rw [if_neg (by change ¬ (false = true); exact Bool.false_ne_true)]
              exact hK.out _ _ (Below.refl _ _) rfl _ rfl
            case r1_16 =>
              intro wq hbw st  K hK
              have KQ := KW.out.trans (hbw.mono KW.out.size)
              simp only [Act.put, List.setIfInBounds_toArray, List.set_cons_zero, List.set_cons_succ] at hK ⊢
              unfold opStep
              rw [if_neg (by change ¬ (false = true); exact Bool.false_ne_true)]
              exact hK.out _ _ (Below.refl _ _) rfl _ rfl
            case r1_17 =>
              intro wq hbw st  K hK
              have KQ := KW.out.trans (hbw.mono KW.out.size)
              simp only [Act.put, List.setIfInBounds_toArray, List.set_cons_zero, List.set_cons_succ] at hK ⊢
              unfold opStep
              rw [if_neg (by change ¬ (false = true); exact Bool.false_ne_true)]
              exact hK.out _ _ (Below.refl _ _) rfl _ rfl
            case r1_18 =>
              intro wq hbw st  K hK
              have KQ := KW.out.trans (hbw.mono KW.out.size)
              simp only [Act.put, List.setIfInBounds_toArray, List.set_cons_zero, List.set_cons_succ] at hK ⊢
              unfold opStep
              rw [if_neg (by change ¬ (false = true); exact Bool.false_ne_true)]
              exact hK.out _ _ (Below.refl _ _) rfl _ rfl
            case r1_19 =>
              intro wq hbw st  K hK
              have KQ := KW.out.trans (hbw.mono KW.out.size)
              simp only [Act.put, List.setIfInBounds_toArray, List.set_cons_zero, List.set_cons_succ] at hK ⊢
              unfold opStep
              rw [if_neg (by change ¬ (false = true); exact Bool.false_ne_true)]
              exact hK.out _ _ (Below.refl _ _) rfl _ rfl
            case r1_20 =>
              intro wq hbw st  K hK
              have KQ := KW.out.trans (hbw.mono KW.out.size)
              simp only [Act.put, List.setIfInBounds_toArray, List.set_cons_zero, List.set_cons_succ] at hK ⊢
              unfold opStep
              rw [if_pos (by rfl)]
              go_simp
              exact hK.out _ _ (Below.refl _ _) rfl _ rfl
            case r1_21 =>
              intro wq hbw st  K hK
              have KQ := KW.out.trans (hbw.mono KW.out.size)
              simp only [Act.put, List.setIfInBounds_toArray, List.set_cons_zero, List.set_cons_succ] at hK ⊢
              unfold opStep
              rw [if_pos (by rfl)]
              go_simp
              exact hK.out _ _ (Below.refl _ _) rfl _ rfl
            case r1_fin =>
              intro wq hbw
              try simp only [FinAll]
              simp only [Act.put, List.setIfInBounds_toArray, List.set_cons_zero, List.set_cons_succ]
              have K3 := Lib.hid (KW.out.trans (hbw.mono KW.out.size))
              have HX3 := Lib.hid (HX.out.on hbw)
              clear hbw
              go_wp2
              go_roundg (h.length - (k + 1))
              case measure => have := HM4.out; omega
              case rel => exact ⟨k + 1, by omega, by go_num, by rw [HG.out], HX3.out, K3.out⟩
          | false =>
            cases hu : upO y with
            | false =>
              have P1 := Lib.hid hu
              have HG : Hid (fnd h s (k + 1) = false) := Lib.hid (by rw [HFS.out, hf, hu]; rfl)
              clear hf hu HFS
              go_upto_region 8 with fail
              refine region_left [.is (.bool false), .is (.bool false), .is (.slice (some ⟨b, off, none⟩) h.length cap), .is (.int .i64 (k : Int)), .is (.pointer (some ⟨b, off + k * 6, none⟩)), .is (.agg #[.int .i64 (cliO y), .int .i64 (kindO y), .int .i64 (begO y), .int .i64 (endO y), .slice a4 (addO y).length c4, .slice a5 (seeO y).length c5]), .is (.bool false), .is (.bool false), .is undef, .is undef, .is undef, .is undef, .is undef, .is undef, .is undef, .is undef, .is undef, .is undef, .is undef, .is (.bool false), .is (.bool false), .is (.bool false)] (by kernel_rfl) rfl (by kernel_rfl) (by kernel_rfl) (.cons ?r2_0 (.cons ?r2_1 (.cons ?r2_2 (.cons ?r2_3 (.cons ?r2_4 (.cons ?r2_5 (.cons ?r2_6 (.cons ?r2_7 (.cons ?r2_8 (.cons ?r2_9 (.cons ?r2_10 (.cons ?r2_11 (.cons ?r2_12 (.cons ?r2_13 (.cons ?r2_14 (.cons ?r2_15 (.cons ?r2_16 (.cons ?r2_17 (.cons ?r2_18 (.cons ?r2_19 (.cons ?r2_20 (.cons ?r2_21 .nil)))))))))))))))))))))) ?r2_fin
              case r2_0 =>
                intro wq hbw st  K hK
                have KQ := KW.out.trans (hbw.mono KW.out.size)
                simp only [Act.put, List.setIfInBounds_toArray, List.set_cons_zero, List.set_cons_succ] at hK ⊢
                unfold opStep
                rw [if_pos (by rfl)]
                go_simp
                exact hK.out _ _ (Below.refl _ _) rfl _ rfl
              case r2_1 =>
                intro wq hbw st  K hK
                have KQ := KW.out.trans (hbw.mono KW.out.size)
                simp only [Act.put, List.setIfInBounds_toArray, List.set_cons_zero, List.set_cons_succ] at hK ⊢
                unfold opStep
                rw [if_pos (by rfl)]
                go_simp
                exact hK.out _ _ (Below.refl _ _) rfl _ rfl
              case r2_2 =>
                intro wq hbw st  K hK
                have KQ := KW.out.trans (hbw.mono KW.out.size)
                simp only [Act.put, List.setIfInBounds_toArray, List.set_cons_zero, List.set_cons_succ] at hK ⊢
                unfold opStep
                rw [if_pos (by rfl)]
                go_simp
                exact hK.out _ _ (Below.refl _ _) rfl _ rfl
              case r2_3 =>
                intro wq hbw st  K hK
                have KQ := KW.out.trans (hbw.mono KW.out.size)
                simp only [Act.put, List.setIfInBounds_toArray, List.set_cons_zero, List.set_cons_succ] at hK ⊢
                unfold opStep
                rw [if_pos (by rfl)]
                go_simp
                exact hK.out _ _ (Below.refl _ _) rfl _ rfl
              case r2_4 =>
                intro wq hbw st  K hK
                have KQ := KW.out.trans (hbw.mono KW.out.size)
                simp only [Act.put, List.setIfInBounds_toArray, List.set_cons_zero, List.set_cons_succ] at hK ⊢
                unfold opStep
                rw [if_pos (by rfl)]
                go_simp
                exact hK.out _ _ (Below.refl _ _) rfl _ rfl
              case r2_5 =>
                intro wq hbw st  K hK
                have KQ := KW.out.trans (hbw.mono KW.out.size)
                simp only [Act.put, List.setIfInBounds_toArray, List.set_cons_zero, List.set_cons_succ] at hK ⊢
                unfold opStep
                rw [if_pos (by rfl)]
                have dd := Lib.hid (HN.out.1 wq KQ)
                have d0 := dd.out.1
                have d1 := dd.out.2.1
                have d2 := dd.out.2.2.1
                have d3 := dd.out.2.2.2.1
                have d4 := dd.out.2.2.2.2.1
                have d5 := dd.out.2.2.2.2.2
                go_simp
                exact hK.out _ _ (Below.refl _ _) rfl _ rfl
              case r2_6 =>
                intro wq hbw st  K hK
                have KQ := KW.out.trans (hbw.mono KW.out.size)
                simp only [Act.put, List.setIfInBounds_toArray, List.set_cons_zero, List.set_cons_succ] at hK ⊢
                unfold opStep
                rw [if_pos (by rfl)]
                go_simp
                have hpc := rupdate_any _ y wq ⟨_, _, rfl, HN.out.2.1.keep KQ, HN.out.2.2.keep KQ⟩
                rw [P1.out] at hpc
                refine hpc.mono ?_
                rintro e wz ⟨rfl, hbz⟩
                go_simp
                exact hK.out _ _ hbz rfl _ rfl
              case r2_7 =>
                intro wq hbw st  K hK
                have KQ := KW.out.trans (hbw.mono KW.out.size)
                simp only [Act.put, List.setIfInBounds_toArray, List.set_cons_zero, List.set_cons_succ] at hK ⊢
                unfold opStep
                rw [if_pos (by rfl)]
                go_simp
                exact hK.out _ _ (Below.refl _ _) rfl _ rfl
              case r2_8 =>
                intro wq hbw st  K hK
                have KQ := KW.out.trans (hbw.mono KW.out.size)
                simp only [Act.put, List.setIfInBounds_toArray, List.set_cons_zero, List.set_cons_succ] at hK ⊢
                unfold opStep
                rw [if_neg (by change ¬ (false = true); exact Bool.false_ne_true)]
                exact hK.out _ _ (Below.refl _ _) rfl _ rfl
              case r2_9 =>
                intro wq hbw st  K hK
                have KQ := KW.out.trans (hbw.mono KW.out.size)
                simp only [Act.put, List.setIfInBounds_toArray, List.set_cons_zero, List.set_cons_succ] at hK ⊢
                unfold opStep
                rw [if_neg (by change ¬ (false = true); exact Bool.false_ne_true)]
                exact hK.out _ _ (Below.refl _ _) rfl _ rfl
              case r2_10 =>
                intro wq hbw st  K hK
                have KQ := KW.out.trans (hbw.mono KW.out.size)
                simp only [Act.put, List.setIfInBounds_toArray, List.set_cons_zero, List.set_cons_succ] at hK ⊢
                unfold opStep
                rw [if_neg (by change ¬ (false = true); exact Bool.false_ne_true)]
                exact hK.out _ _ (Below.refl _ _) rfl _ rfl
              case r2_11 =>
                intro wq hbw st  K hK
                have KQ := KW.out.trans (hbw.mono KW.out.size)
                simp only [Act.put, List.setIfInBounds_toArray, List.set_cons_zero, List.set_cons_succ] at hK ⊢
                unfold opStep
                rw [if_neg (by change ¬ (false = true); exact Bool.false_ne_true)]
                exact hK.out _ _ (Below.refl _ _) rfl _ rfl
              case r2_12 =>
                intro wq hbw st  K hK
                have KQ := KW.out.trans (hbw.mono KW.out.size)
                simp only [Act.put, List.setIfInBounds_toArray, List.set_cons_zero, List.set_cons_succ] at hK ⊢
                unfold opStep
                rw [if_neg (by change ¬ (false = true); exact Bool.false_ne_true)]
                exact hK.out _ _ (Below.refl _ _) rfl _ rfl
              case r2_13 =>
                intro wq hbw st  K hK
                have KQ := KW.out.trans (hbw.mono KW.out.size)
                simp only [Act.put, List.setIfInBounds_toArray, List.set_cons_zero, List.set_cons_succ] at hK ⊢
                unfold opStep
                rw [if_neg (by change ¬ (false = true); exact Bool.false_ne_true)]
                exact hK.out _ _ (Below.refl _ _) rfl _ rfl
              case r2_14 =>
                intro wq hbw st  K hK
                have KQ := KW.out.trans (hbw.mono KW.out.size)
                simp only [Act.put, List.setIfInBounds_toArray, List.set_cons_zero, List.set_cons_succ] at hK ⊢
                unfold opStep
                rw [if_neg (by change ¬ (false = true); exact Bool.false_ne_true)]
                exact hK.out _ _ (Below.refl _ _) rfl _ rfl
              case r2_15 =>
                intro wq hbw st  K hK
                have KQ := KW.out.trans (hbw.mono KW.out.size)
                simp only [Act.put, List.setIfInBounds_toArray, List.set_cons_zero, List.set_cons_succ] at hK ⊢
                unfold opStep
                rw [if_neg (by change ¬ (false = true); exact Bool.false_ne_true)]
                exact hK.out _ _ (Below.refl _ _) rfl _ rfl
              case r2_16 =>
                intro wq hbw st  K hK
                have KQ := KW.out.trans (hbw.mono KW.out.size)
                simp only [Act.put, List.setIfInBounds_toArray, List.set_cons_zero, List.set_cons_succ] at hK ⊢
                unfold opStep
                rw [if_neg (by change ¬ (false = true); exact Bool.false_ne_true)]
                exact hK.out _ _ (Below.refl _ _) rfl _ rfl
              case r2_17 =>
                intro wq hbw st  K hK
                have KQ := KW.out.trans (hbw.mono KW.out.size)
                simp only [Act.put, List.setIfInBounds_toArray, List.set_cons_zero, List.set_cons_succ] at hK ⊢
                unfold opStep
                rw [if_neg (by change ¬ (false = true); exact Bool.false_ne_true)]
                exact hK.out _ _ (Below.refl _ _) rfl _ rfl
              case r2_18 =>
                intro wq hbw st  K hK
                have KQ := KW.out.trans (hbw.mono KW.out.size)
                simp only [Act.put, List.setIfInBounds_toArray, List.set_cons_zero, List.set_cons_succ] at hK ⊢
                unfold opStep
                rw [if_neg (by change ¬ (false = true); exact Bool.false_ne_true)]
                exact hK.out _ _ (Below.refl _ _) rfl _ rfl
              case r2_19 =>
                intro wq hbw st  K hK
                have KQ := KW.out.trans (hbw.mono KW.out.size)
                simp only [Act.put, List.setIfInBounds_toArray, List.set_cons_zero, List.set_cons_succ] at hK ⊢
                unfold opStep
                rw [if_pos (by rfl)]
                go_simp
                exact hK.out _ _ (Below.refl _ _) rfl _ rfl
              case r2_20 =>
                intro wq hbw st  K hK
                have KQ := KW.out.trans (hbw.mono KW.out.size)
                simp only [Act.put, List.setIfInBounds_toArray, List.set_cons_zero, List.set_cons_succ] at hK ⊢
                unfold opStep
                rw [if_pos (by rfl)]
                go_simp
                exact hK.out _ _ (Below.refl _ _) rfl _ rfl
              case r2_21 =>
                intro wq hbw st  K hK
                have KQ := KW.out.trans (hbw.mono KW.out.size)
                simp only [Act.put, List.setIfInBounds_toArray, List.set_cons_zero, List.set_cons_succ] at hK ⊢
                unfold opStep
                rw [if_pos (by rfl)]
                go_simp
                exact hK.out _ _ (Below.refl _ _) rfl _ rfl
              case r2_fin =>
                intro wq hbw
                try simp only [FinAll]
                simp only [Act.put, List.setIfInBounds_toArray, List.set_cons_zero, List.set_cons_succ]
                have K3 := Lib.hid (KW.out.trans (hbw.mono KW.out.size))
                have HX3 := Lib.hid (HX.out.on hbw)
                clear hbw
                go_wp2
                go_roundg (h.length - (k + 1))
                case measure => have := HM4.out; omega
                case rel => exact ⟨k + 1, by omega, by go_num, by rw [HG.out], HX3.out, K3.out⟩
            | true =>
              cases hh : decide (s ∈ addO y) with
              | false =>
                have P1 := Lib.hid hu
                have P2 := Lib.hid hh
                have HG : Hid (fnd h s (k + 1) = false) := Lib.hid (by rw [HFS.out, hf, hu, hh]; rfl)
                clear hf hu hh HFS
                go_upto_region 8 with fail
                refine region_left [.is (.bool false), .is (.bool false), .is (.slice (some ⟨b, off, none⟩) h.length cap), .is (.int .i64 (k : Int)), .is (.pointer (some ⟨b, off + k * 6, none⟩)), .is (.agg #[.int .i64 (cliO y), .int .i64 (kindO y), .int .i64 (begO y), .int .i64 (endO y), .slice a4 (addO y).length c4, .slice a5 (seeO y).length c5]), .is (.bool true), .is (.bool true), .is (.slice (some ⟨b, off, none⟩) h.length cap), .is (.int .i64 (k : Int)), .is (.pointer (some ⟨b, off + k * 6, none⟩)), .is (.pointer (some ⟨b, off + k * 6 + 4, none⟩)), .is (.slice a4 (addO y).length c4), .is (.pointer (some ⟨W.heap.size, 5, none⟩)), .is (.slice (some ⟨bs, os, none⟩) se.length ma), .is (.int .i64 (q : Int)), .is (.pointer (some ⟨bs, os + q, none⟩)), .is (vs s), .is (.bool false), .is (.bool false), .is (.bool false), .is (.bool false)] (by kernel_rfl) rfl (by kernel_rfl) (by kernel_rfl) (.cons ?r3_0 (.cons ?r3_1 (.cons ?r3_2 (.cons ?r3_3 (.cons ?r3_4 (.cons ?r3_5 (.cons ?r3_6 (.cons ?r3_7 (.cons ?r3_8 (.cons ?r3_9 (.cons ?r3_10 (.cons ?r3_11 (.cons ?r3_12 (.cons ?r3_13 (.cons ?r3_14 (.cons ?r3_15 (.cons ?r3_16 (.cons ?r3_17 (.cons ?r3_18 (.cons ?r3_19 (.cons ?r3_20 (.cons ?r3_21 .nil)))))))))))))))))))))) ?r3_fin
                case r3_0 =>
                  intro wq hbw st  K hK
                  have KQ := KW.out.trans (hbw.mono KW.out.size)
                  simp only [Act.put, List.setIfInBounds_toArray, List.set_cons_zero, List.set_cons_succ] at hK ⊢
                  unfold opStep
                  rw [if_pos (by rfl)]
                  go_simp
                  exact hK.out _ _ (Below.refl _ _) rfl _ rfl
                case r3_1 =>
                  intro wq hbw st  K hK
                  have KQ := KW.out.trans (hbw.mono KW.out.size)
                  simp only [Act.put, List.setIfInBounds_toArray, List.set_cons_zero, List.set_cons_succ] at hK ⊢
                  unfold opStep
                  rw [if_pos (by rfl)]
                  go_simp
                  exact hK.out _ _ (Below.refl _ _) rfl _ rfl
                case r3_2 =>
                  intro wq hbw st  K hK
                  have KQ := KW.out.trans (hbw.mono KW.out.size)
                  simp only [Act.put, List.setIfInBounds_toArray, List.set_cons_zero, List.set_cons_succ] at hK ⊢
                  unfold opStep
                  rw [if_pos (by rfl)]
                  go_simp
                  exact hK.out _ _ (Below.refl _ _) rfl _ rfl
                case r3_3 =>
                  intro wq hbw st  K hK
                  have KQ := KW.out.trans (hbw.mono KW.out.size)
                  simp only [Act.put, List.setIfInBounds_toArray, List.set_cons_zero, List.set_cons_succ] at hK ⊢
                  unfold opStep
                  rw [if_pos (by rfl)]
                  go_simp
                  exact hK.out _ _ (Below.refl _ _) rfl _ rfl
                case r3_4 =>
                  intro wq hbw st  K hK
                  have KQ := KW.out.trans (hbw.mono KW.out.size)
                  simp only [Act.put, List.setIfInBounds_toArray, List.set_cons_zero, List.set_cons_succ] at hK ⊢
                  unfold opStep
                  rw [if_pos (by rfl)]
                  go_simp
                  exact hK.out _ _ (Below.refl _ _) rfl _ rfl
                case r3_5 =>
                  intro wq hbw st  K hK
                  have KQ := KW.out.trans (hbw.mono KW.out.size)
                  simp only [Act.put, List.setIfInBounds_toArray, List.set_cons_zero, List.set_cons_succ] at hK ⊢
                  unfold opStep
                  rw [if_pos (by rfl)]
                  have dd := Lib.hid (HN.out.1 wq KQ)
                  have d0 := dd.out.1
                  have d1 := dd.out.2.1
                  have d2 := dd.out.2.2.1
                  have d3 := dd.out.2.2.2.1
                  have d4 := dd.out.2.2.2.2.1
                  have d5 := dd.out.2.2.2.2.2
                  go_simp
                  exact hK.out _ _ (Below.refl _ _) rfl _ rfl
                case r3_6 =>
                  intro wq hbw st  K hK
                  have KQ := KW.out.trans (hbw.mono KW.out.size)
                  simp only [Act.put, List.setIfInBounds_toArray, List.set_cons_zero, List.set_cons_succ] at hK ⊢
                  unfold opStep
                  rw [if_pos (by rfl)]
                  go_simp
                  have hpc := rupdate_any _ y wq ⟨_, _, rfl, HN.out.2.1.keep KQ, HN.out.2.2.keep KQ⟩
                  rw [P1.out] at hpc
                  refine hpc.mono ?_
                  rintro e wz ⟨rfl, hbz⟩
                  go_simp
                  exact hK.out _ _ hbz rfl _ rfl
                case r3_7 =>
                  intro wq hbw st  K hK
                  have KQ := KW.out.trans (hbw.mono KW.out.size)
                  simp only [Act.put, List.setIfInBounds_toArray, List.set_cons_zero, List.set_cons_succ] at hK ⊢
                  unfold opStep
                  rw [if_pos (by rfl)]
                  go_simp
                  exact hK.out _ _ (Below.refl _ _) rfl _ rfl
                case r3_8 =>
                  intro wq hbw st  K hK
                  have KQ := KW.out.trans (hbw.mono KW.out.size)
                  simp only [Act.put, List.setIfInBounds_toArray, List.set_cons_zero, List.set_cons_succ] at hK ⊢
                  unfold opStep
                  rw [if_pos (by rfl)]
                  go_simp
                  exact hK.out _ _ (Below.refl _ _) rfl _ rfl
                case r3_9 =>
                  intro wq hbw st  K hK
                  have KQ := KW.out.trans (hbw.mono KW.out.size)
                  simp only [Act.put, List.setIfInBounds_toArray, List.set_cons_zero, List.set_cons_succ] at hK ⊢
                  unfold opStep
                  rw [if_pos (by rfl)]
                  go_simp
                  exact hK.out _ _ (Below.refl _ _) rfl _ rfl
                case r3_10 =>
                  intro wq hbw st  K hK
                  have KQ := KW.out.trans (hbw.mono KW.out.size)
                  simp only [Act.put, List.setIfInBounds_toArray, List.set_cons_zero, List.set_cons_succ] at hK ⊢
                  unfold opStep
                  rw [if_pos (by rfl)]
                  go_simp
                  exact hK.out _ _ (Below.refl _ _) rfl _ rfl
                case r3_11 =>
                  intro wq hbw st  K hK
                  have KQ := KW.out.trans (hbw.mono KW.out.size)
                  simp only [Act.put, List.setIfInBounds_toArray, List.set_cons_zero, List.set_cons_succ] at hK ⊢
                  unfold opStep
                  rw [if_pos (by rfl)]
                  go_simp
                  exact hK.out _ _ (Below.refl _ _) rfl _ rfl
                case r3_12 =>
                  intro wq hbw st  K hK
                  have KQ := KW.out.trans (hbw.mono KW.out.size)
                  simp only [Act.put, List.setIfInBounds_toArray, List.set_cons_zero, List.set_cons_succ] at hK ⊢
                  unfold opStep
                  rw [if_pos (by rfl)]
                  have d4 := (HN.out.1 wq KQ).2.2.2.2.1
                  go_simp
                  exact hK.out _ _ (Below.refl _ _) rfl _ rfl
                case r3_13 =>
                  intro wq hbw st  K hK
                  have KQ := KW.out.trans (hbw.mono KW.out.size)
                  simp only [Act.put, List.setIfInBounds_toArray, List.set_cons_zero, List.set_cons_succ] at hK ⊢
                  unfold opStep
                  rw [if_pos (by rfl)]
                  go_simp
                  exact hK.out _ _ (Below.refl _ _) rfl _ rfl
                case r3_14 =>
                  intro wq hbw st  K hK
                  have KQ := KW.out.trans (hbw.mono KW.out.size)
                  simp only [Act.put, List.setIfInBounds_toArray, List.set_cons_zero, List.set_cons_succ] at hK ⊢
                  unfold opStep
                  rw [if_pos (by rfl)]
                  have HXQ := HX.out.on hbw
                  have d5 := (blk6 HXQ.1).2.2.2.2.2.1
                  go_simp
                  exact hK.out _ _ (Below.refl _ _) rfl _ rfl
                case r3_15 =>
                  intro wq hbw st  K hK
                  have KQ := KW.out.trans (hbw.mono KW.out.size)
                  simp only [Act.put, List.setIfInBounds_toArray, List.set_cons_zero, List.set_cons_succ] at hK ⊢
                  unfold opStep
                  rw [if_pos (by rfl)]
                  go_simp
                  exact hK.out _ _ (Below.refl _ _) rfl _ rfl
                case r3_16 =>
                  intro wq hbw st  K hK
                  have KQ := KW.out.trans (hbw.mono KW.out.size)
                  simp only [Act.put, List.setIfInBounds_toArray, List.set_cons_zero, List.set_cons_succ] at hK ⊢
                  unfold opStep
                  rw [if_pos (by rfl)]
                  go_simp
                  exact hK.out _ _ (Below.refl _ _) rfl _ rfl
                case r3_17 =>
                  intro wq hbw st  K hK
                  have KQ := KW.out.trans (hbw.mono KW.out.size)
                  simp only [Act.put, List.setIfInBounds_toArray, List.set_cons_zero, List.set_cons_succ] at hK ⊢
                  unfold opStep
                  rw [if_pos (by rfl)]
                  have cs := HCS.out wq KQ
                  go_simp
                  exact hK.out _ _ (Below.refl _ _) rfl _ rfl
                case r3_18 =>
                  intro wq hbw st  K hK
                  have KQ := KW.out.trans (hbw.mono KW.out.size)
                  simp only [Act.put, List.setIfInBounds_toArray, List.set_cons_zero, List.set_cons_succ] at hK ⊢
                  unfold opStep
                  rw [if_pos (by rfl)]
                  go_simp
                  have hpc := rhas_any _ (addO y) s wq (HN.out.2.1.keep KQ)
                  rw [P2.out] at hpc
                  refine hpc.mono ?_
                  rintro e wz ⟨rfl, rfl⟩
                  try go_simp
                  exact hK.out _ _ (Below.refl _ _) rfl _ rfl
                case r3_19 =>
                  intro wq hbw st  K hK
                  have KQ := KW.out.trans (hbw.mono KW.out.size)
                  simp only [Act.put, List.setIfInBounds_toArray, List.set_cons_zero, List.set_cons_succ] at hK ⊢
                  unfold opStep
                  rw [if_pos (by rfl)]
                  go_simp
                  exact hK.out _ _ (Below.refl _ _) rfl _ rfl
                case r3_20 =>
                  intro wq hbw st  K hK
                  have KQ := KW.out.trans (hbw.mono KW.out.size)
                  simp only [Act.put, List.setIfInBounds_toArray, List.set_cons_zero, List.set_cons_succ] at hK ⊢
                  unfold opStep
                  rw [if_pos (by rfl)]
                  go_simp
                  exact hK.out _ _ (Below.refl _ _) rfl _ rfl
                case r3_21 =>
                  intro wq hbw st  K hK
                  have KQ := KW.out.trans (hbw.mono KW.out.size)
                  simp only [Act.put, List.setIfInBounds_toArray, List.set_cons_zero, List.set_cons_succ] at hK ⊢
                  unfold opStep
                  rw [if_pos (by rfl)]
                  go_simp
                  exact hK.out _ _ (Below.refl _ _) rfl _ rfl
                case r3_fin =>
                  intro wq hbw
                  try simp only [FinAll]
                  simp only [Act.put, List.setIfInBounds_toArray, List.set_cons_zero, List.set_cons_succ]
                  have K3 := Lib.hid (KW.out.trans (hbw.mono KW.out.size))
                  have HX3 := Lib.hid (HX.out.on hbw)
                  clear hbw
                  go_wp2
                  go_roundg (h.length - (k + 1))
                  case measure => have := HM4.out; omega
                  case rel => exact ⟨k + 1, by omega, by go_num, by rw [HG.out], HX3.out, K3.out⟩
              | true =>
                have P1 := Lib.hid hu
                have P2 := Lib.hid hh
                have HG : Hid (fnd h s (k + 1) = true) := Lib.hid (by rw [HFS.out, hf, hu, hh]; rfl)
                clear hf hu hh HFS
                go_upto_region 8 with fail
                refine region_left [.is (.bool false), .is (.bool false), .is (.slice (some ⟨b, off, none⟩) h.length cap), .is (.int .i64 (k : Int)), .is (.pointer (some ⟨b, off + k * 6, none⟩)), .is (.agg #[.int .i64 (cliO y), .int .i64 (kindO y), .int .i64 (begO y), .int .i64 (endO y), .slice a4 (addO y).length c4, .slice a5 (seeO y).length c5]), .is (.bool true), .is (.bool true), .is (.slice (some ⟨b, off, none⟩) h.length cap), .is (.int .i64 (k : Int)), .is (.pointer (some ⟨b, off + k * 6, none⟩)), .is (.pointer (some ⟨b, off + k * 6 + 4, none⟩)), .is (.slice a4 (addO y).length c4), .is (.pointer (some ⟨W.heap.size, 5, none⟩)), .is (.slice (some ⟨bs, os, none⟩) se.length ma), .is (.int .i64 (q : Int)), .is (.pointer (some ⟨bs, os + q, none⟩)), .is (vs s), .is (.bool true), .is (.bool true), .is (.bool true), .is (.bool true)] (by kernel_rfl) rfl (by kernel_rfl) (by kernel_rfl) (.cons ?r4_0 (.cons ?r4_1 (.cons ?r4_2 (.cons ?r4_3 (.cons ?r4_4 (.cons ?r4_5 (.cons ?r4_6 (.cons ?r4_7 (.cons ?r4_8 (.cons ?r4_9 (.cons ?r4_10 (.cons ?r4_11 (.cons ?r4_12 (.cons ?r4_13 (.cons ?r4_14 (.cons ?r4_15 (.cons ?r4_16 (.cons ?r4_17 (.cons ?r4_18 (.cons ?r4_19 (.cons ?r4_20 (.cons ?r4_21 .nil)))))))))))))))))))))) ?r4_fin
                case r4_0 =>
                  intro wq hbw st  K hK
                  have KQ := KW.out.trans (hbw.mono KW.out.size)
                  simp only [Act.put, List.setIfInBounds_toArray, List.set_cons_zero, List.set_cons_succ] at hK ⊢
                  unfold opStep
                  rw [if_pos (by rfl)]
                  go_simp
                  exact hK.out _ _ (Below.refl _ _) rfl _ rfl
                case r4_1 =>
                  intro wq hbw st  K hK
                  have KQ := KW.out.trans (hbw.mono KW.out.size)
                  simp only [Act.put, List.setIfInBounds_toArray, List.set_cons_zero, List.set_cons_succ] at hK ⊢
                  unfold opStep
                  rw [if_pos (by rfl)]
                  go_simp
                  exact hK.out _ _ (Below.refl _ _) rfl _ rfl
                case r4_2 =>
                  intro wq hbw st  K hK
                  have KQ := KW.out.trans (hbw.mono KW.out.size)
                  simp only [Act.put, List.setIfInBounds_toArray, List.set_cons_zero, List.set_cons_succ] at hK ⊢
                  unfold opStep
                  rw [if_pos (by rfl)]
                  go_simp
                  exact hK.out _ _ (Below.refl _ _) rfl _ rfl
                case r4_3 =>
                  intro wq hbw st  K hK
                  have KQ := KW.out.trans (hbw.mono KW.out.size)
                  simp only [Act.put, List.setIfInBounds_toArray, List.set_cons_zero, List.set_cons_succ] at hK ⊢
                  unfold opStep
                  rw [if_pos (by rfl)]
                  go_simp
                  exact hK.out _ _ (Below.refl _ _) rfl _ rfl
                case r4_4 =>
                  intro wq hbw st  K hK
                  have KQ := KW.out.trans (hbw.mono KW.out.size)
                  simp only [Act.put, List.setIfInBounds_toArray, List.set_cons_zero, List.set_cons_succ] at hK ⊢
                  unfold opStep
                  rw [if_pos (by rfl)]
                  go_simp
                  exact hK.out _ _ (Below.refl _ _) rfl _ rfl
                case r4_5 =>
                  intro wq hbw st  K hK
                  have KQ := KW.out.trans (hbw.mono KW.out.size)
                  simp only [Act.put, List.setIfInBounds_toArray, List.set_cons_zero, List.set_cons_succ] at hK ⊢
                  unfold opStep
                  rw [if_pos (by rfl)]
                  have dd := Lib.hid (HN.out.1 wq KQ)
                  have d0 := dd.out.1
                  have d1 := dd.out.2.1
                  have d2 := dd.out.2.2.1
                  have d3 := dd.out.2.2.2.1
                  have d4 := dd.out.2.2.2.2.1
                  have d5 := dd.out.2.2.2.2.2
                  go_simp
                  exact hK.out _ _ (Below.refl _ _) rfl _ rfl
                case r4_6 =>
                  intro wq hbw st  K hK
                  have KQ := KW.out.trans (hbw.mono KW.out.size)
                  simp only [Act.put, List.setIfInBounds_toArray, List.set_cons_zero, List.set_cons_succ] at hK ⊢
                  unfold opStep
                  rw [if_pos (by rfl)]
                  go_simp
                  have hpc := rupdate_any _ y wq ⟨_, _, rfl, HN.out.2.1.keep KQ, HN.out.2.2.keep KQ⟩
                  rw [P1.out] at hpc
                  refine hpc.mono ?_
                  rintro e wz ⟨rfl, hbz⟩
                  go_simp
                  exact hK.out _ _ hbz rfl _ rfl
                case r4_7 =>
                  intro wq hbw st  K hK
                  have KQ := KW.out.trans (hbw.mono KW.out.size)
                  simp only [Act.put, List.setIfInBounds_toArray, List.set_cons_zero, List.set_cons_succ] at hK ⊢
                  unfold opStep
                  rw [if_pos (by rfl)]
                  go_simp
                  exact hK.out _ _ (Below.refl _ _) rfl _ rfl
                case r4_8 =>
                  intro wq hbw st  K hK
                  have KQ := KW.out.trans (hbw.mono KW.out.size)
                  simp only [Act.put, List.setIfInBounds_toArray, List.set_cons_zero, List.set_cons_succ] at hK ⊢
                  unfold opStep
                  rw [if_pos (by rfl)]
                  go_simp
                  exact hK.out _ _ (Below.refl _ _) rfl _ rfl
                case r4_9 =>
                  intro wq hbw st  K hK
                  have KQ := KW.out.trans (hbw.mono KW.out.size)
                  simp only [Act.put, List.setIfInBounds_toArray, List.set_cons_zero, List.set_cons_succ] at hK ⊢
                  unfold opStep
                  rw [if_pos (by rfl)]
                  go_simp
                  exact hK.out _ _ (Below.refl _ _) rfl _ rfl
                case r4_10 =>
                  intro wq hbw st  K hK
                  have KQ := KW.out.trans (hbw.mono KW.out.size)
                  simp only [Act.put, List.setIfInBounds_toArray, List.set_cons_zero, List.set_cons_succ] at hK ⊢
                  unfold opStep
                  rw [if_pos (by rfl)]
                  go_simp
                  exact hK.out _ _ (Below.refl _ _) rfl _ rfl
                case r4_11 =>
                  intro wq hbw st  K hK
                  have KQ := KW.out.trans (hbw.mono KW.out.size)
                  simp only [Act.put, List.setIfInBounds_toArray, List.set_cons_zero, List.set_cons_succ] at hK ⊢
                  unfold opStep
                  rw [if_pos (by rfl)]
                  go_simp
                  exact hK.out _ _ (Below.refl _ _) rfl _ rfl
                case r4_12 =>
                  intro wq hbw st  K hK
                  have KQ := KW.out.trans (hbw.mono KW.out.size)
                  simp only [Act.put, List.setIfInBounds_toArray, List.set_cons_zero, List.set_cons_succ] at hK ⊢
                  unfold opStep
                  rw [if_pos (by rfl)]
                  have d4 := (HN.out.1 wq KQ).2.2.2.2.1
                  go_simp
                  exact hK.out _ _ (Below.refl _ _) rfl _ rfl
                case r4_13 =>
                  intro wq hbw st  K hK
                  have KQ := KW.out.trans (hbw.mono KW.out.size)
                  simp only [Act.put, List.setIfInBounds_toArray, List.set_cons_zero, List.set_cons_succ] at hK ⊢
                  unfold opStep
                  rw [if_pos (by rfl)]
                  go_simp
                  exact hK.out _ _ (Below.refl _ _) rfl _ rfl
                case r4_14 =>
                  intro wq hbw st  K hK
                  have KQ := KW.out.trans (hbw.mono KW.out.size)
                  simp only [Act.put, List.setIfInBounds_toArray, List.set_cons_zero, List.set_cons_succ] at hK ⊢
                  unfold opStep
                  rw [if_pos (by rfl)]
                  have HXQ := HX.out.on hbw
                  have d5 := (blk6 HXQ.1).2.2.2.2.2.1
                  go_simp
                  exact hK.out _ _ (Below.refl _ _) rfl _ rfl
                case r4_15 =>
                  intro wq hbw st  K hK
                  have KQ := KW.out.trans (hbw.mono KW.out.size)
                  simp only [Act.put, List.setIfInBounds_toArray, List.set_cons_zero, List.set_cons_succ] at hK ⊢
                  unfold opStep
                  rw [if_pos (by rfl)]
                  go_simp
                  exact hK.out _ _ (Below.refl _ _) rfl _ rfl
                case r4_16 =>
                  intro wq hbw st  K hK
                  have KQ := KW.out.trans (hbw.mono KW.out.size)
                  simp only [Act.put, List.setIfInBounds_toArray, List.set_cons_zero, List.set_cons_succ] at hK ⊢
                  unfold opStep
                  rw [if_pos (by rfl)]
                  go_simp
                  exact hK.out _ _ (Below.refl _ _) rfl _ rfl
                case r4_17 =>
                  intro wq hbw st  K hK
                  have KQ := KW.out.trans (hbw.mono KW.out.size)
                  simp only [Act.put, List.setIfInBounds_toArray, List.set_cons_zero, List.set_cons_succ] at hK ⊢
                  unfold opStep
                  rw [if_pos (by rfl)]
                  have cs := HCS.out wq KQ
                  go_simp
                  exact hK.out _ _ (Below.refl _ _) rfl _ rfl
                case r4_18 =>
                  intro wq hbw st  K hK
                  have KQ := KW.out.trans (hbw.mono KW.out.size)
                  simp only [Act.put, List.setIfInBounds_toArray, List.set_cons_zero, List.set_cons_succ] at hK ⊢
                  unfold opStep
                  rw [if_pos (by rfl)]
                  go_simp
                  have hpc := rhas_any _ (addO y) s wq (HN.out.2.1.keep KQ)
                  rw [P2.out] at hpc
                  refine hpc.mono ?_
                  rintro e wz ⟨rfl, rfl⟩
                  try go_simp
                  exact hK.out _ _ (Below.refl _ _) rfl _ rfl
                case r4_19 =>
                  intro wq hbw st  K hK
                  have KQ := KW.out.trans (hbw.mono KW.out.size)
                  simp only [Act.put, List.setIfInBounds_toArray, List.set_cons_zero, List.set_cons_succ] at hK ⊢
                  unfold opStep
                  rw [if_pos (by rfl)]
                  go_simp
                  exact hK.out _ _ (Below.refl _ _) rfl _ rfl
                case r4_20 =>
                  intro wq hbw st  K hK
                  have KQ := KW.out.trans (hbw.mono KW.out.size)
                  simp only [Act.put, List.setIfInBounds_toArray, List.set_cons_zero, List.set_cons_succ] at hK ⊢
                  unfold opStep
                  rw [if_pos (by rfl)]
                  go_simp
                  exact hK.out _ _ (Below.refl _ _) rfl _ rfl
                case r4_21 =>
                  intro wq hbw st  K hK
                  have KQ := KW.out.trans (hbw.mono KW.out.size)
                  simp only [Act.put, List.setIfInBounds_toArray, List.set_cons_zero, List.set_cons_succ] at hK ⊢
                  unfold opStep
                  rw [if_pos (by rfl)]
                  go_simp
                  exact hK.out _ _ (Below.refl _ _) rfl _ rfl
                case r4_fin =>
                  intro wq hbw
                  try simp only [FinAll]
                  simp only [Act.put, List.setIfInBounds_toArray, List.set_cons_zero, List.set_cons_succ]
                  have K3 := Lib.hid (KW.out.trans (hbw.mono KW.out.size))
                  have HX3 := Lib.hid (HX.out.on hbw)
                  clear hbw
                  go_wp2
                  go_roundg (h.length - (k + 1))
                  case measure => have := HM4.out; omega
                  case rel => exact ⟨k + 1, by omega, by go_num, by rw [HG.out], HX3.out, K3.out⟩
        · have hkk : k = h.length := by omega
          cases hf : fnd h s k with
          | true =>
            have HG := Lib.hid (HNQ.out (hkk ▸ hf))
            clear hf hkk
            go_wp2
            go_roundg (se.length - (q + 1))
            case measure => have := HM.out; omega
            case rel => exact ⟨q + 1, by omega, by go_num, HX.out, KW.out, HG.out⟩
          | false =>
            have HE := Lib.hid (HYQ.out (hkk ▸ hf))
            clear hf hkk
            go_wp2
            go_ret
            exact ⟨ret_bool HE.out.symm, KW.out⟩
    · have HE := Lib.hid (HNO.out fun i hi => HALL.out i hi (by omega))
      go_wp2
      go_ret
      exact ⟨ret_bool HE.out.symm, KW.out⟩
    end Go.Proofs.YtjijlhjggpibjaaGreat
