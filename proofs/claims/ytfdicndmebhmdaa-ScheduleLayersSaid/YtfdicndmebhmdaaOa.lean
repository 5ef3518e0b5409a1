/-
  Chapter 29: the reference's Layers.
-/
import Derived.Test.YtfdicndmebhmdaaNz
import Derived.Test.YtfdicndmebhmdaaNy
namespace Go.Proofs.Ytfdicndmebhmdaa
open Go.RowKit
theorem rowZ_made {w w' : World} (_h : Below w.heap.size (w.alloc (.cells #[] 3)) w') : True := trivial
theorem rowZ_new (w : World) : RowZ (w.alloc (.cells #[] 3)) (.slice (some ⟨w.heap.size, 0, none⟩) 0 0) [] := ⟨_, _, rfl, row_any (World.ownsRow_made w #[] 0 (Nat.le_refl _) (Nat.zero_le _) rfl)⟩
theorem RowZ.cap {w : World} {g c n : Nat} {l : List Int} (h : RowZ w (.slice (some ⟨g, 0, none⟩) n c) l) : n = l.length ∧ l.length ≤ c ∧ c ≤ maxLen := by
  obtain ⟨g', c', e, h⟩ := h
  injection e with e1 e2 e3
  subst e2
  exact ⟨rfl, row_cap h⟩
theorem RowZ.row {w : World} {g c : Nat} {l : List Int} (h : RowZ w (.slice (some ⟨g, 0, none⟩) l.length c) l) : w.ownsRow 0 3 1 (.slice (some ⟨g, 0, none⟩) l.length c) l.length (l.map vi) := by
  obtain ⟨g', c', e, h⟩ := h
  exact h
theorem vis_one {l : List Int} : ∀ u ∈ l.map vi, u.oneCell' = true := by
  intro u hu
  obtain ⟨x, _, rfl⟩ := List.mem_map.1 hu
  rfl
set_option maxRecDepth 100000 in
set_option maxHeartbeats 16000000 in
theorem rlayers_any (tv : Value) (t : List Ev) (W : World) (hr : ReadsE W tv t) (hn : t.length ≤ 1000) : Calls Try.prog 26 #[tv] W (fun e w' => ∃ v, e = .returned v ∧ OutZ W w' v (layE t)) := by
  have HR := Lib.hid hr
  have HN := Lib.hid hn
  obtain ⟨ao, cap, rfl, hl, hm, -, -⟩ := hr
  unfold maxLen at hm
  go_enter Try.func26, Try.ntmps26
  go_wp2
  go_loopg [3, 4, 5, 6, 7] t.length (fun m o idx _ _ _ wr => ∃ i : Nat, m + i = t.length ∧ idx = .int .i64 i ∧ OutZ W wr o (layK t i (nl t i)))
  case atStart => exact ⟨0, by omega, rfl, OutZ.made W⟩
  case round =>
    rename World => w1
    obtain ⟨i, hmi, rfl, ho⟩ := hrel
    have HM := Lib.hid hmi
    have HO := Lib.hid ho
    have KW := Lib.hid ho.1
    have hi : i ≤ 1000 := by omega
    obtain ⟨oa0, oc0, rfl⟩ := ho.slc
    clear hmi ho
    by_cases hlt : i < t.length
    · have hii : (i : Int) < t.length := by omega
      have hi0 : (0 : Int) ≤ (i : Int) := by omega
      have HLT := Lib.hid (And.intro hlt trivial)
      have HCALL := Lib.hid (rlayer_any t hn i _ w1 hlt (HR.out.on KW.out))
      clear hlt
      go_wp2_with fail
      refine HCALL.out.mono ?_
      rintro e w2 ⟨rfl, hb2⟩
      have HO2 := Lib.hid (HO.out.later hb2)
      clear HCALL HO KW hb2
      have hnl1 := nl_max t i
      have hln := ly_nl t i
      have hnle := nl_le t i
      have HNL := Lib.hid (And.intro hnl1 hln)
      obtain ⟨n, hnn⟩ : ∃ n, n = ly t i + 1 := ⟨_, rfl⟩
      have HNN := Lib.hid hnn
      rw [← hnn]
      have hn1 : n ≤ 1001 := by omega
      have hn0 : (0 : Int) ≤ (n : Int) := by omega
      rw [layK_len]
      clear hnn hnl1 hln hnle
      obtain ⟨G1, hG1⟩ : ∃ G, G = gk := ⟨_, rfl⟩
      subst hG1
      go_wp2
      go_loopg [3] 1001 (fun m o wr => ∃ q : Nat, m + q = 1001 + nl t i ∧ nl t i ≤ q ∧ q ≤ nl t (i + 1) ∧ OutZ W wr o (layK t i q))
      case atStart => exact ⟨nl t i, by omega, Nat.le_refl _, by rw [nl_succ]; omega, by have h := HO2.out; rwa [layK_len] at h⟩
      case round =>
        rename World => w3
        obtain ⟨q, hmq, hq1, hq2, ho⟩ := hrel
        have HMQ := Lib.hid (And.intro hmq (And.intro hq1 hq2))
        have HO3 := Lib.hid ho
        have hqn : q ≤ 1001 := by have := nl_le t (i + 1); omega
        obtain ⟨oa, oc, rfl⟩ := ho.slc
        rw [layK_len]
        clear hmq hq1 hq2 ho HO2
        by_cases hqq : q < n
        · have hqi : (q : Int) < (n : Int) := by omega
          have HQ := Lib.hid (And.intro hqq trivial)
          have HQ1 : Hid (q + 1 ≤ nl t (i + 1)) := Lib.hid (by
            have h1 := HNL.out.1
            have := HNN.out
            have := HMQ.out.2.1
            by_cases h : ly t i < nl t i
            · omega
            · rw [if_neg h] at h1; omega)
          have HB : Hid (Below w3.heap.size w3 ((w3.alloc (.cells #[] 3)).alloc (.cells #[.slice (some ⟨w3.heap.size, 0, none⟩) 0 0] 25))) := Lib.hid (below_two w3 _ _)
          have HL1 : Hid (layK t i q ++ [[]] = layK t i (q + 1)) := Lib.hid (layK_push HMQ.out.2.1).symm
          clear hqq
          go_wp2_with (at_builtin; refine append_listZ (w0 := W) rfl _ _ rfl (.slice oa q oc) (layK t i q) [] (.slice (some ⟨w3.heap.size, 0, none⟩) 0 0) (w3.heap.size + 1) rfl ?_ rfl ?_ ?_ (by rw [layK_len]; omega) ?_)
          · have h := HO3.out.later HB.out
            rwa [layK_len] at h
          · have h := Blk.new (w3.alloc (.cells #[] 3)) 25 #[.slice (some ⟨w3.heap.size, 0, none⟩) 0 0]
            simpa using h
          · exact (rowZ_new w3).on ((Below.refl _ _).alloc (Nat.le_refl _) _)
          intro v' w4 h4
          rw [HL1.out] at h4
          have HO4 := Lib.hid h4
          clear h4 HO3 HB
          go_wp2
          go_roundg (1001 + nl t i - (q + 1))
          case measure => have := HMQ.out; omega
          case rel => exact ⟨q + 1, by have := HMQ.out; omega, by have := HMQ.out; omega, HQ1.out, HO4.out⟩
        · have hqi : ¬ (q : Int) < (n : Int) := by omega
          have hqe : q = nl t (i + 1) := by
            have h1 := HNL.out.1
            have := HNN.out
            have := HMQ.out.2
            by_cases h : ly t i < nl t i
            · rw [if_pos h] at h1; omega
            · rw [if_neg h] at h1; omega
          have hlym : ly t i < q := by have := ly_lt_nl (t := t) (i := i); omega
          have HQE := Lib.hid (And.intro hqe trivial)
          obtain ⟨a, hae⟩ : ∃ a, a = ly t i := ⟨_, rfl⟩
          have HAE := Lib.hid hae
          have HLQ : Hid (a < (layK t i q).length) := Lib.hid (by rw [layK_len]; omega)
          have haq : (a : Int) < (q : Int) := by omega
          have ha0 : (0 : Int) ≤ (a : Int) := by omega
          have ena : (n : Int) - 1 = (a : Int) := by have := HNN.out; omega
          have ewa : IntKind.i64.wrap (a : Int) = (a : Int) := IntWalk.i64_in _ (by omega)
          obtain ⟨ga, g2, lc, e1, hocell, hrow⟩ := HO3.out.cell HLQ.out
          subst e1
          have hget : (layK t i q)[a]'HLQ.out = sortI (lyN t i a) := layK_get HLQ.out
          rw [hget] at hocell hrow
          have HSETL : Hid (layK t (i + 1) q = (layK t i q).set a (insI (nmI t i) (sortI (lyN t i a)))) := Lib.hid (by rw [hae]; exact layK_set)
          have hlll : (sortI (lyN t i a)).length ≤ 1000 := by rw [sortI_len]; have := lyN_len t i a; omega
          have HINS := Lib.hid (insI_at (nmI t i) (sortI (lyN t i a)))
          have hlq : (layK t i q).length = q := layK_len t i q
          clear hget hqi hqe hae hlym
          generalize sortI (lyN t i a) = l at *
          generalize layK t i q = LL at *
          subst hlq
          obtain ⟨-, hcap1, hcap2⟩ := hrow.cap
          unfold maxLen at hcap2
          obtain ⟨b, off, cap1, s1, c1, hv, hcell, r1⟩ := HR.out.at2 HLT.out.1
          injection hv with e1 e2 e3
          subst e1
          have HNM : Hid (nmI t i = t[i].1) := Lib.hid (by unfold nmI; rw [nthE_eq HLT.out.1])
          have HX := Lib.hid (And.intro hcell r1)
          have HROW := Lib.hid hrow
          have HOC := Lib.hid hocell
          have KW := Lib.hid HO3.out.1
          clear e2 e3 hcell r1 hrow hocell
          generalize t[i]'HLT.out.1 = x at *
          rw [HNM.out] at HINS HSETL
          have d9 := HOC.out w3 (Below.refl _ _)
          go_wp2
          clear d9
          go_loopg [7] l.length (fun m px wr => ∃ p : Nat, m + p = l.length ∧ px = .int .i64 p ∧ (∀ j (h : j < l.length), j < p → l[j] < x.1) ∧ Below w3.heap.size w3 wr)
          case atStart => exact ⟨0, by omega, rfl, fun j _ h => by omega, Below.refl _ _⟩
          case round =>
            rename World => w5
            obtain ⟨p, hmp, rfl, hall, hb5⟩ := hrel
            have HM3 := Lib.hid hmp
            have HALL := Lib.hid hall
            have hp : p ≤ l.length := by omega
            have hp0 : (0 : Int) ≤ (p : Int) := by omega
            have hpc : p ≤ lc := by omega
            have K5 := Lib.hid hb5
            have HROW5 := Lib.hid (HROW.out.on hb5)
            have HO5 := Lib.hid (HO3.out.later hb5)
            have KR5 := Lib.hid (KW.out.trans (hb5.mono KW.out.size))
            have HGO : Hid (∀ h : p < l.length, l[p] < x.1 → ∀ j (h : j < l.length), j < p + 1 → l[j] < x.1) := Lib.hid fun hpl h1 j hj hjp => by
              by_cases e : j = p
              · subst e; exact h1
              · exact HALL.out j hj (by omega)
            have HHALT : Hid ((∀ h : p < l.length, x.1 ≤ l[p]) → insI x.1 l = (l.take p ++ [x.1]) ++ l.drop p) := Lib.hid fun h2 => HINS.out p (by omega) HALL.out h2
            clear hmp hall hb5
            by_cases hpl : p < l.length
            · have hpl2 : (p : Int) < l.length := by omega
              have HCELL : Hid (∀ wq, Below w5.heap.size w5 wq → wq.cell? ⟨g2, p, none⟩ = some (.int .i64 l[p])) := Lib.hid fun wq hq => (row_cell (below_row HROW5.out.row hq) (u := vi l[p]) (by simp [hpl])).1
              have HGP : Hid ((l[p] < x.1 → ∀ j (h : j < l.length), j < p + 1 → l[j] < x.1) ∧ (x.1 ≤ l[p] → insI x.1 l = (l.take p ++ [x.1]) ++ l.drop p)) := Lib.hid (And.intro (HGO.out hpl) (fun h => HHALT.out fun _ => h))
              clear HGO HHALT
              generalize l[p] = y at *
              clear hpl
              by_cases hxy : y < x.1
              · have HG2 := Lib.hid (HGP.out.1 hxy)
                clear HGP
                go_wp2_with fail
                refine region_left [.is (.int .i64 (p : Int)), .is (.slice (some ⟨g2, 0, none⟩) l.length lc), .is (.int .i64 (l.length : Int)), .is (.bool true), .is (.bool true), .is (.slice (some ⟨g2, 0, none⟩) l.length lc), .is (.int .i64 (p : Int)), .is (.pointer (some ⟨g2, p, none⟩)), .is (.int .i64 y), .is (.slice (some ⟨b, off, none⟩) t.length cap), .is (.int .i64 (i : Int)), .is (.pointer (some ⟨b, off + i * 2, none⟩)), .is (.pointer (some ⟨b, off + i * 2, none⟩)), .is (.int .i64 x.1), .is (.bool true), .is (.bool true)] (by kernel_rfl) rfl (by kernel_rfl) (by kernel_rfl) (.cons ?c0 (.cons ?c1 (.cons ?c2 (.cons ?c3 (.cons ?c4 (.cons ?c5 (.cons ?c6 (.cons ?c7 (.cons ?c8 (.cons ?c9 (.cons ?c10 (.cons ?c11 (.cons ?c12 (.cons ?c13 (.cons ?c14 (.cons ?c15 .nil)))))))))))))))) ?cfin
                case c0 =>
                  intro wq hbw st  K hK
                  simp only [Act.put, List.setIfInBounds_toArray, List.set_cons_zero, List.set_cons_succ] at hK ⊢
                  unfold opStep
                  rw [if_pos (by rfl)]
                  go_simp
                  exact hK.out _ _ (Below.refl _ _) rfl _ rfl
                case c1 =>
                  intro wq hbw st  K hK
                  simp only [Act.put, List.setIfInBounds_toArray, List.set_cons_zero, List.set_cons_succ] at hK ⊢
                  unfold opStep
                  rw [if_pos (by rfl)]
                  go_simp
                  exact hK.out _ _ (Below.refl _ _) rfl _ rfl
                case c2 =>
                  intro wq hbw st  K hK
                  simp only [Act.put, List.setIfInBounds_toArray, List.set_cons_zero, List.set_cons_succ] at hK ⊢
                  unfold opStep
                  rw [if_pos (by rfl)]
                  go_simp
                  exact hK.out _ _ (Below.refl _ _) rfl _ rfl
                case c3 =>
                  intro wq hbw st  K hK
                  simp only [Act.put, List.setIfInBounds_toArray, List.set_cons_zero, List.set_cons_succ] at hK ⊢
                  unfold opStep
                  rw [if_pos (by rfl)]
                  go_simp
                  exact hK.out _ _ (Below.refl _ _) rfl _ rfl
                case c4 =>
                  intro wq hbw st  K hK
                  simp only [Act.put, List.setIfInBounds_toArray, List.set_cons_zero, List.set_cons_succ] at hK ⊢
                  unfold opStep
                  rw [if_pos (by rfl)]
                  go_simp
                  exact hK.out _ _ (Below.refl _ _) rfl _ rfl
                case c5 =>
                  intro wq hbw st  K hK
                  simp only [Act.put, List.setIfInBounds_toArray, List.set_cons_zero, List.set_cons_succ] at hK ⊢
                  unfold opStep
                  rw [if_pos (by rfl)]
                  go_simp
                  exact hK.out _ _ (Below.refl _ _) rfl _ rfl
                case c6 =>
                  intro wq hbw st  K hK
                  simp only [Act.put, List.setIfInBounds_toArray, List.set_cons_zero, List.set_cons_succ] at hK ⊢
                  unfold opStep
                  rw [if_pos (by rfl)]
                  go_simp
                  exact hK.out _ _ (Below.refl _ _) rfl _ rfl
                case c7 =>
                  intro wq hbw st  K hK
                  simp only [Act.put, List.setIfInBounds_toArray, List.set_cons_zero, List.set_cons_succ] at hK ⊢
                  unfold opStep
                  rw [if_pos (by rfl)]
                  go_simp
                  exact hK.out _ _ (Below.refl _ _) rfl _ rfl
                case c8 =>
                  intro wq hbw st  K hK
                  simp only [Act.put, List.setIfInBounds_toArray, List.set_cons_zero, List.set_cons_succ] at hK ⊢
                  unfold opStep
                  rw [if_pos (by rfl)]
                  have d0 := HCELL.out wq hbw
                  go_simp
                  exact hK.out _ _ (Below.refl _ _) rfl _ rfl
                case c9 =>
                  intro wq hbw st  K hK
                  simp only [Act.put, List.setIfInBounds_toArray, List.set_cons_zero, List.set_cons_succ] at hK ⊢
                  unfold opStep
                  rw [if_pos (by rfl)]
                  go_simp
                  exact hK.out _ _ (Below.refl _ _) rfl _ rfl
                case c10 =>
                  intro wq hbw st  K hK
                  simp only [Act.put, List.setIfInBounds_toArray, List.set_cons_zero, List.set_cons_succ] at hK ⊢
                  unfold opStep
                  rw [if_pos (by rfl)]
                  go_simp
                  exact hK.out _ _ (Below.refl _ _) rfl _ rfl
                case c11 =>
                  intro wq hbw st  K hK
                  simp only [Act.put, List.setIfInBounds_toArray, List.set_cons_zero, List.set_cons_succ] at hK ⊢
                  unfold opStep
                  rw [if_pos (by rfl)]
                  go_simp
                  exact hK.out _ _ (Below.refl _ _) rfl _ rfl
                case c12 =>
                  intro wq hbw st  K hK
                  simp only [Act.put, List.setIfInBounds_toArray, List.set_cons_zero, List.set_cons_succ] at hK ⊢
                  unfold opStep
                  rw [if_pos (by rfl)]
                  go_simp
                  exact hK.out _ _ (Below.refl _ _) rfl _ rfl
                case c13 =>
                  intro wq hbw st  K hK
                  simp only [Act.put, List.setIfInBounds_toArray, List.set_cons_zero, List.set_cons_succ] at hK ⊢
                  unfold opStep
                  rw [if_pos (by rfl)]
                  have dd := Lib.hid (HX.out.1 _ (KR5.out.trans (hbw.mono KR5.out.size)))
                  have d0 := dd.out.1
                  have d1 := dd.out.2
                  go_simp
                  exact hK.out _ _ (Below.refl _ _) rfl _ rfl
                case c14 =>
                  intro wq hbw st  K hK
                  simp only [Act.put, List.setIfInBounds_toArray, List.set_cons_zero, List.set_cons_succ] at hK ⊢
                  unfold opStep
                  rw [if_pos (by rfl)]
                  go_simp
                  exact hK.out _ _ (Below.refl _ _) rfl _ rfl
                case c15 =>
                  intro wq hbw st  K hK
                  simp only [Act.put, List.setIfInBounds_toArray, List.set_cons_zero, List.set_cons_succ] at hK ⊢
                  unfold opStep
                  rw [if_pos (by rfl)]
                  go_simp
                  exact hK.out _ _ (Below.refl _ _) rfl _ rfl
                case cfin =>
                  intro wq hbw
                  try simp only [FinAll]
                  simp only [Act.put, List.setIfInBounds_toArray, List.set_cons_zero, List.set_cons_succ]
                  replace K5 := Lib.hid (K5.out.trans (hbw.mono K5.out.size))
                  clear hbw hxy KR5 HROW5 HCELL HO5
                  go_wp2
                  go_roundg (l.length - (p + 1))
                  case measure => have := HM3.out; omega
                  case rel => exact ⟨p + 1, by have := HM3.out; omega, by go_num, HG2.out, K5.out⟩
              · have HEND := Lib.hid (HGP.out.2 (by omega))
                have hxyd : decide (y < x.1) = false := decide_eq_false hxy
                clear HGP
                go_wp2_with fail
                refine region_left [.is (.int .i64 (p : Int)), .is (.slice (some ⟨g2, 0, none⟩) l.length lc), .is (.int .i64 (l.length : Int)), .is (.bool true), .is (.bool true), .is (.slice (some ⟨g2, 0, none⟩) l.length lc), .is (.int .i64 (p : Int)), .is (.pointer (some ⟨g2, p, none⟩)), .is (.int .i64 y), .is (.slice (some ⟨b, off, none⟩) t.length cap), .is (.int .i64 (i : Int)), .is (.pointer (some ⟨b, off + i * 2, none⟩)), .is (.pointer (some ⟨b, off + i * 2, none⟩)), .is (.int .i64 x.1), .is (.bool false), .is (.bool false)] (by kernel_rfl) rfl (by kernel_rfl) (by kernel_rfl) (.cons ?d0 (.cons ?d1 (.cons ?d2 (.cons ?d3 (.cons ?d4 (.cons ?d5 (.cons ?d6 (.cons ?d7 (.cons ?d8 (.cons ?d9 (.cons ?d10 (.cons ?d11 (.cons ?d12 (.cons ?d13 (.cons ?d14 (.cons ?d15 .nil)))))))))))))))) ?dfin
                case d0 =>
                  intro w6 hbw st  K hK
                  simp only [Act.put, List.setIfInBounds_toArray, List.set_cons_zero, List.set_cons_succ] at hK ⊢
                  unfold opStep
                  rw [if_pos (by rfl)]
                  go_simp
                  exact hK.out _ _ (Below.refl _ _) rfl _ rfl
                case d1 =>
                  intro w6 hbw st  K hK
                  simp only [Act.put, List.setIfInBounds_toArray, List.set_cons_zero, List.set_cons_succ] at hK ⊢
                  unfold opStep
                  rw [if_pos (by rfl)]
                  go_simp
                  exact hK.out _ _ (Below.refl _ _) rfl _ rfl
                case d2 =>
                  intro w6 hbw st  K hK
                  simp only [Act.put, List.setIfInBounds_toArray, List.set_cons_zero, List.set_cons_succ] at hK ⊢
                  unfold opStep
                  rw [if_pos (by rfl)]
                  go_simp
                  exact hK.out _ _ (Below.refl _ _) rfl _ rfl
                case d3 =>
                  intro w6 hbw st  K hK
                  simp only [Act.put, List.setIfInBounds_toArray, List.set_cons_zero, List.set_cons_succ] at hK ⊢
                  unfold opStep
                  rw [if_pos (by rfl)]
                  go_simp
                  exact hK.out _ _ (Below.refl _ _) rfl _ rfl
                case d4 =>
                  intro w6 hbw st  K hK
                  simp only [Act.put, List.setIfInBounds_toArray, List.set_cons_zero, List.set_cons_succ] at hK ⊢
                  unfold opStep
                  rw [if_pos (by rfl)]
                  go_simp
                  exact hK.out _ _ (Below.refl _ _) rfl _ rfl
                case d5 =>
                  intro w6 hbw st  K hK
                  simp only [Act.put, List.setIfInBounds_toArray, List.set_cons_zero, List.set_cons_succ] at hK ⊢
                  unfold opStep
                  rw [if_pos (by rfl)]
                  go_simp
                  exact hK.out _ _ (Below.refl _ _) rfl _ rfl
                case d6 =>
                  intro w6 hbw st  K hK
                  simp only [Act.put, List.setIfInBounds_toArray, List.set_cons_zero, List.set_cons_succ] at hK ⊢
                  unfold opStep
                  rw [if_pos (by rfl)]
                  go_simp
                  exact hK.out _ _ (Below.refl _ _) rfl _ rfl
                case d7 =>
                  intro w6 hbw st  K hK
                  simp only [Act.put, List.setIfInBounds_toArray, List.set_cons_zero, List.set_cons_succ] at hK ⊢
                  unfold opStep
                  rw [if_pos (by rfl)]
                  go_simp
                  exact hK.out _ _ (Below.refl _ _) rfl _ rfl
                case d8 =>
                  intro w6 hbw st  K hK
                  simp only [Act.put, List.setIfInBounds_toArray, List.set_cons_zero, List.set_cons_succ] at hK ⊢
                  unfold opStep
                  rw [if_pos (by rfl)]
                  have d0 := HCELL.out w6 hbw
                  go_simp
                  exact hK.out _ _ (Below.refl _ _) rfl _ rfl
                case d9 =>
                  intro w6 hbw st  K hK
                  simp only [Act.put, List.setIfInBounds_toArray, List.set_cons_zero, List.set_cons_succ] at hK ⊢
                  unfold opStep
                  rw [if_pos (by rfl)]
                  go_simp
                  exact hK.out _ _ (Below.refl _ _) rfl _ rfl
                case d10 =>
                  intro w6 hbw st  K hK
                  simp only [Act.put, List.setIfInBounds_toArray, List.set_cons_zero, List.set_cons_succ] at hK ⊢
                  unfold opStep
                  rw [if_pos (by rfl)]
                  go_simp
                  exact hK.out _ _ (Below.refl _ _) rfl _ rfl
                case d11 =>
                  intro w6 hbw st  K hK
                  simp only [Act.put, List.setIfInBounds_toArray, List.set_cons_zero, List.set_cons_succ] at hK ⊢
                  unfold opStep
                  rw [if_pos (by rfl)]
                  go_simp
                  exact hK.out _ _ (Below.refl _ _) rfl _ rfl
                case d12 =>
                  intro w6 hbw st  K hK
                  simp only [Act.put, List.setIfInBounds_toArray, List.set_cons_zero, List.set_cons_succ] at hK ⊢
                  unfold opStep
                  rw [if_pos (by rfl)]
                  go_simp
                  exact hK.out _ _ (Below.refl _ _) rfl _ rfl
                case d13 =>
                  intro w6 hbw st  K hK
                  simp only [Act.put, List.setIfInBounds_toArray, List.set_cons_zero, List.set_cons_succ] at hK ⊢
                  unfold opStep
                  rw [if_pos (by rfl)]
                  have dd := Lib.hid (HX.out.1 _ (KR5.out.trans (hbw.mono KR5.out.size)))
                  have d0 := dd.out.1
                  have d1 := dd.out.2
                  go_simp
                  exact hK.out _ _ (Below.refl _ _) rfl _ rfl
                case d14 =>
                  intro w6 hbw st  K hK
                  simp only [Act.put, List.setIfInBounds_toArray, List.set_cons_zero, List.set_cons_succ] at hK ⊢
                  unfold opStep
                  rw [if_pos (by rfl)]
                  go_simp
                  exact hK.out _ _ (Below.refl _ _) rfl _ rfl
                case d15 =>
                  intro w6 hbw st  K hK
                  simp only [Act.put, List.setIfInBounds_toArray, List.set_cons_zero, List.set_cons_succ] at hK ⊢
                  unfold opStep
                  rw [if_pos (by rfl)]
                  go_simp
                  exact hK.out _ _ (Below.refl _ _) rfl _ rfl
                case dfin =>
                  intro w6 hbw
                  try simp only [FinAll]
                  simp only [Act.put, List.setIfInBounds_toArray, List.set_cons_zero, List.set_cons_succ]
                  replace K5 := Lib.hid (K5.out.trans (hbw.mono K5.out.size))
                  clear hbw hxy KR5 HROW5 HCELL HO5
                  have HROW6 := Lib.hid (HROW.out.on K5.out)
                  have HO6 := Lib.hid (HO3.out.later K5.out)
                  have KR6 := Lib.hid (KW.out.trans (K5.out.mono KW.out.size))
                  have hple : p ≤ l.length := by have := HM3.out; omega
                  clear K5 HALL
                  obtain ⟨sa, hsa⟩ : ∃ sa : Option Addr, sa = (if lc = p then some ⟨g2, 0, none⟩ else some ⟨g2, p, none⟩) := ⟨_, rfl⟩
                  obtain ⟨sad, hsad⟩ : ∃ sad : Addr, sa = some sad ∧ (p < l.length → sad = ⟨g2, p, none⟩) := by
                    rw [hsa]
                    by_cases e : lc = p
                    · rw [if_pos e]; exact ⟨_, rfl, fun h => by omega⟩
                    · rw [if_neg e]; exact ⟨_, rfl, fun _ => rfl⟩
                  have HSA := Lib.hid (And.intro hsa hsad)
                  have HLL := Lib.hid hlll
                  clear hsa hsad
                  go_upto_region 12 with fail
                  refine region_inv W.heap.size (JL w6.heap.size w6 (vi x.1) ((l.map vi).take p) ((l.map vi).drop p) (fun w => OutZ W w (.slice (some ⟨ga, 0, none⟩) LL.length oc) (LL.set a (insI x.1 l)))) [some (.slice (some ⟨ga, 0, none⟩) LL.length oc), some (.int .i64 (n : Int)), some (.int .i64 (a : Int)), none, some (.slice (some ⟨g2, 0, none⟩) l.length lc), some (.int .i64 (p : Int)), some (.slice (some ⟨g2, 0, none⟩) p lc), none, some (.slice (some ⟨b, off, none⟩) t.length cap), some (.int .i64 (i : Int)), some (.pointer (some ⟨b, off + i * 2, none⟩)), some (.pointer (some ⟨b, off + i * 2, none⟩)), some (.int .i64 x.1), none, none, some (.slice (some ⟨g2, 0, none⟩) l.length lc), some (.int .i64 (p : Int)), some (.slice sa (l.length - p) (lc - p)), none, some (.pointer (some ⟨ga, a, none⟩)), none] (by kernel_rfl) rfl (by kernel_rfl) (by kernel_rfl) (JL.start) (.cons ?z0 (.cons ?z1 (.cons ?z2 (.cons ?z3 (.cons ?z4 (.cons ?z5 (.cons ?z6 (.cons ?z7 (.cons ?z8 (.cons ?z9 (.cons ?z10 (.cons ?z11 (.cons ?z12 (.cons ?z13 (.cons ?z14 (.cons ?z15 (.cons ?z16 (.cons ?z17 (.cons ?z18 (.cons ?z19 (.cons ?z20 .nil))))))))))))))))))))) ?zfin
                  case z0 =>
                    intro wq hbw D st hJ hD hdp K hK
                    simp only [Act.put, List.setIfInBounds_toArray, List.set_cons_zero, List.set_cons_succ] at hK ⊢
                    unfold opStep
                    rw [if_pos (by rfl)]
                    go_simp
                    exact hK.out _ _ (Below.refl _ _) (fun u hu => Option.some.inj hu) (hJ.pure 0 _ (by decide) hD (by decide) (by decide) (by decide) (by decide) (by decide)) _ rfl
                  case z1 =>
                    intro wq hbw D st hJ hD hdp K hK
                    simp only [Act.put, List.setIfInBounds_toArray, List.set_cons_zero, List.set_cons_succ] at hK ⊢
                    unfold opStep
                    rw [if_pos (by rfl)]
                    go_simp
                    exact hK.out _ _ (Below.refl _ _) (fun u hu => Option.some.inj hu) (hJ.pure 1 _ (by decide) hD (by decide) (by decide) (by decide) (by decide) (by decide)) _ rfl
                  case z2 =>
                    intro wq hbw D st hJ hD hdp K hK
                    simp only [Act.put, List.setIfInBounds_toArray, List.set_cons_zero, List.set_cons_succ] at hK ⊢
                    unfold opStep
                    rw [if_pos (by rfl)]
                    go_simp
                    exact hK.out _ _ (Below.refl _ _) (fun u hu => Option.some.inj hu) (hJ.pure 2 _ (by decide) hD (by decide) (by decide) (by decide) (by decide) (by decide)) _ rfl
                  case z3 =>
                    intro wq hbw D st hJ hD hdp K hK
                    simp only [Act.put, List.setIfInBounds_toArray, List.set_cons_zero, List.set_cons_succ] at hK ⊢
                    unfold opStep
                    rw [if_pos (by rfl)]
                    go_simp
                    have HBS := hJ.bel (by decide) hD
                    have hsz := HBS.size
                    exact hK.out _ _ ((Below.refl _ _).alloc (Nat.le_trans KR6.out.size hbw.size) _) (fun u hu => by cases hu) (hJ.s3 hD hsz) _ rfl
                  case z4 =>
                    intro wq hbw D st hJ hD hdp K hK
                    simp only [Act.put, List.setIfInBounds_toArray, List.set_cons_zero, List.set_cons_succ] at hK ⊢
                    unfold opStep
                    rw [if_pos (by rfl)]
                    go_simp
                    exact hK.out _ _ (Below.refl _ _) (fun u hu => Option.some.inj hu) (hJ.pure 4 _ (by decide) hD (by decide) (by decide) (by decide) (by decide) (by decide)) _ rfl
                  case z5 =>
                    intro wq hbw D st hJ hD hdp K hK
                    simp only [Act.put, List.setIfInBounds_toArray, List.set_cons_zero, List.set_cons_succ] at hK ⊢
                    unfold opStep
                    rw [if_pos (by rfl)]
                    go_simp
                    exact hK.out _ _ (Below.refl _ _) (fun u hu => Option.some.inj hu) (hJ.pure 5 _ (by decide) hD (by decide) (by decide) (by decide) (by decide) (by decide)) _ rfl
                  case z6 =>
                    intro wq hbw D st hJ hD hdp K hK
                    simp only [Act.put, List.setIfInBounds_toArray, List.set_cons_zero, List.set_cons_succ] at hK ⊢
                    unfold opStep
                    rw [if_pos (by rfl)]
                    go_simp
                    exact hK.out _ _ (Below.refl _ _) (fun u hu => Option.some.inj hu) (hJ.pure 6 _ (by decide) hD (by decide) (by decide) (by decide) (by decide) (by decide)) _ rfl
                  case z7 =>
                    intro wq hbw D st hJ hD hdp K hK
                    simp only [Act.put, List.setIfInBounds_toArray, List.set_cons_zero, List.set_cons_succ] at hK ⊢
                    unfold opStep
                    rw [if_pos (by rfl)]
                    have HBS := hJ.bel (by decide) hD
                    have hsz := HBS.size
                    have d3 := hdp 3 (of_decide_eq_true (by kernel_rfl))
                    obtain ⟨h0, h1⟩ := hJ.at3 d3 hD
                    have hsrc := (row_take (HROW6.out.on HBS).row hple).cells (g := g2) rfl
                    have hxl : ((l.map vi).take p).length = p := by rw [List.length_take, List.length_map]; omega
                    refine wp_append_blkM (.tmp 52) (.tmp 55) rfl w6.heap.size (st 3) 0 [] ⟨g2, 0, none⟩ p lc ((l.map vi).take p) rfl rfl hxl hsrc (fun u hu => vis_one u (List.mem_of_mem_take hu)) h0 (by have := HLL.out; omega) hsz ?_
                    intro v5 w7 r5 g5 b5
                    obtain ⟨hj5, hb5⟩ := hJ.s7 d3 hD hsz (by rw [hxl]; exact r5) g5 b5
                    exact hK.out _ _ (hb5.mono KR6.out.size) (fun u hu => by cases hu) hj5 _ rfl
                  case z8 =>
                    intro wq hbw D st hJ hD hdp K hK
                    simp only [Act.put, List.setIfInBounds_toArray, List.set_cons_zero, List.set_cons_succ] at hK ⊢
                    unfold opStep
                    rw [if_pos (by rfl)]
                    go_simp
                    exact hK.out _ _ (Below.refl _ _) (fun u hu => Option.some.inj hu) (hJ.pure 8 _ (by decide) hD (by decide) (by decide) (by decide) (by decide) (by decide)) _ rfl
                  case z9 =>
                    intro wq hbw D st hJ hD hdp K hK
                    simp only [Act.put, List.setIfInBounds_toArray, List.set_cons_zero, List.set_cons_succ] at hK ⊢
                    unfold opStep
                    rw [if_pos (by rfl)]
                    go_simp
                    exact hK.out _ _ (Below.refl _ _) (fun u hu => Option.some.inj hu) (hJ.pure 9 _ (by decide) hD (by decide) (by decide) (by decide) (by decide) (by decide)) _ rfl
                  case z10 =>
                    intro wq hbw D st hJ hD hdp K hK
                    simp only [Act.put, List.setIfInBounds_toArray, List.set_cons_zero, List.set_cons_succ] at hK ⊢
                    unfold opStep
                    rw [if_pos (by rfl)]
                    go_simp
                    exact hK.out _ _ (Below.refl _ _) (fun u hu => Option.some.inj hu) (hJ.pure 10 _ (by decide) hD (by decide) (by decide) (by decide) (by decide) (by decide)) _ rfl
                  case z11 =>
                    intro wq hbw D st hJ hD hdp K hK
                    simp only [Act.put, List.setIfInBounds_toArray, List.set_cons_zero, List.set_cons_succ] at hK ⊢
                    unfold opStep
                    rw [if_pos (by rfl)]
                    go_simp
                    exact hK.out _ _ (Below.refl _ _) (fun u hu => Option.some.inj hu) (hJ.pure 11 _ (by decide) hD (by decide) (by decide) (by decide) (by decide) (by decide)) _ rfl
                  case z12 =>
                    intro wq hbw D st hJ hD hdp K hK
                    simp only [Act.put, List.setIfInBounds_toArray, List.set_cons_zero, List.set_cons_succ] at hK ⊢
                    unfold opStep
                    rw [if_pos (by rfl)]
                    have dd := Lib.hid (HX.out.1 _ (KR6.out.trans hbw))
                    have d0 := dd.out.1
                    have d1 := dd.out.2
                    go_simp
                    exact hK.out _ _ (Below.refl _ _) (fun u hu => Option.some.inj hu) (hJ.pure 12 _ (by decide) hD (by decide) (by decide) (by decide) (by decide) (by decide)) _ rfl
                  case z13 =>
                    intro wq hbw D st hJ hD hdp K hK
                    simp only [Act.put, List.setIfInBounds_toArray, List.set_cons_zero, List.set_cons_succ] at hK ⊢
                    unfold opStep
                    rw [if_pos (by rfl)]
                    go_simp
                    have HBS := hJ.bel (by decide) hD
                    have hsz := HBS.size
                    exact hK.out _ _ ((Below.refl _ _).alloc (Nat.le_trans KR6.out.size hbw.size) _) (fun u hu => by cases hu) (hJ.s13 hD hsz) _ rfl
                  case z14 =>
                    intro wq hbw D st hJ hD hdp K hK
                    simp only [Act.put, List.setIfInBounds_toArray, List.set_cons_zero, List.set_cons_succ] at hK ⊢
                    unfold opStep
                    rw [if_pos (by rfl)]
                    have HBS := hJ.bel (by decide) hD
                    have hsz := HBS.size
                    have d7 := hdp 7 (of_decide_eq_true (by kernel_rfl))
                    have d13 := hdp 13 (of_decide_eq_true (by kernel_rfl))
                    obtain ⟨h0, h1⟩ := hJ.at7 d7 hD
                    obtain ⟨gb, e13, hB13, -⟩ := h1 d13
                    have hxl : ((l.map vi).take p).length = p := by rw [List.length_take, List.length_map]; omega
                    refine wp_append_blkM (.tmp 56) (.tmp 62) rfl w6.heap.size (st 7) ((l.map vi).take p).length ((l.map vi).take p) ⟨gb, 0, none⟩ 1 1 [vi x.1] rfl (by show st 13 = _; rw [e13]) rfl (fun j u hu => by rw [addr0, hB13.cell]; simpa using hu) (fun u hu => by rw [List.mem_singleton.1 hu]; rfl) h0 (by have := HLL.out; omega) hsz ?_
                    intro v5 w7 r5 g5 _
                    obtain ⟨hj5, hb5⟩ := hJ.s14 d7 d13 hD hsz r5 g5
                    exact hK.out _ _ (hb5.mono KR6.out.size) (fun u hu => by cases hu) hj5 _ rfl
                  case z15 =>
                    intro wq hbw D st hJ hD hdp K hK
                    simp only [Act.put, List.setIfInBounds_toArray, List.set_cons_zero, List.set_cons_succ] at hK ⊢
                    unfold opStep
                    rw [if_pos (by rfl)]
                    go_simp
                    exact hK.out _ _ (Below.refl _ _) (fun u hu => Option.some.inj hu) (hJ.pure 15 _ (by decide) hD (by decide) (by decide) (by decide) (by decide) (by decide)) _ rfl
                  case z16 =>
                    intro wq hbw D st hJ hD hdp K hK
                    simp only [Act.put, List.setIfInBounds_toArray, List.set_cons_zero, List.set_cons_succ] at hK ⊢
                    unfold opStep
                    rw [if_pos (by rfl)]
                    go_simp
                    exact hK.out _ _ (Below.refl _ _) (fun u hu => Option.some.inj hu) (hJ.pure 16 _ (by decide) hD (by decide) (by decide) (by decide) (by decide) (by decide)) _ rfl
                  case z17 =>
                    intro wq hbw D st hJ hD hdp K hK
                    simp only [Act.put, List.setIfInBounds_toArray, List.set_cons_zero, List.set_cons_succ] at hK ⊢
                    unfold opStep
                    rw [if_pos (by rfl)]
                    go_simp
                    rw [← HSA.out.1]
                    exact hK.out _ _ (Below.refl _ _) (fun u hu => Option.some.inj hu) (hJ.pure 17 _ (by decide) hD (by decide) (by decide) (by decide) (by decide) (by decide)) _ rfl
                  case z18 =>
                    intro wq hbw D st hJ hD hdp K hK
                    simp only [Act.put, List.setIfInBounds_toArray, List.set_cons_zero, List.set_cons_succ] at hK ⊢
                    unfold opStep
                    rw [if_pos (by rfl)]
                    have HBS := hJ.bel (by decide) hD
                    have hsz := HBS.size
                    have d14 := hdp 14 (of_decide_eq_true (by kernel_rfl))
                    have h0 := hJ.at14 d14 hD
                    obtain ⟨hs1, hs2⟩ := HSA.out.2
                    have hxl : ((l.map vi).take p).length = p := by rw [List.length_take, List.length_map]; omega
                    have hyl : ((l.map vi).drop p).length = l.length - p := by rw [List.length_drop, List.length_map]
                    have hsrc := row_tail (HROW6.out.on HBS).row hs2
                    refine wp_append_blkM (.tmp 63) (.tmp 66) rfl w6.heap.size (st 14) (((l.map vi).take p).length + 1) (((l.map vi).take p) ++ [vi x.1]) sad (l.length - p) (lc - p) ((l.map vi).drop p) rfl (congrArg (fun q => Value.slice q (l.length - p) (lc - p)) hs1) hyl hsrc (fun u hu => vis_one u (List.mem_of_mem_drop hu)) h0 (by have := HLL.out; omega) hsz ?_
                    intro v5 w7 r5 g5 _
                    obtain ⟨hj5, hb5⟩ := hJ.s18 d14 hD hsz (by rw [hyl]; exact r5) g5
                    exact hK.out _ _ (hb5.mono KR6.out.size) (fun u hu => by cases hu) hj5 _ rfl
                  case z19 =>
                    intro wq hbw D st hJ hD hdp K hK
                    simp only [Act.put, List.setIfInBounds_toArray, List.set_cons_zero, List.set_cons_succ] at hK ⊢
                    unfold opStep
                    rw [if_pos (by rfl)]
                    go_simp
                    exact hK.out _ _ (Below.refl _ _) (fun u hu => Option.some.inj hu) (hJ.pure 19 _ (by decide) hD (by decide) (by decide) (by decide) (by decide) (by decide)) _ rfl
                  case z20 =>
                    intro wq hbw D st hJ hD hdp K hK
                    simp only [Act.put, List.setIfInBounds_toArray, List.set_cons_zero, List.set_cons_succ] at hK ⊢
                    unfold opStep
                    rw [if_pos (by rfl)]
                    have hall : ∀ j, j < 20 → D j = true := all_of (n := 20) (by kernel_rfl) hdp
                    obtain ⟨hr5, HBS⟩ := hJ.at18 (hall 18 (by decide)) hD
                    obtain ⟨a5, c5, e5⟩ := row_slc hr5
                    have hxl : ((l.map vi).take p).length = p := by rw [List.length_take, List.length_map]; omega
                    have hyl : ((l.map vi).drop p).length = l.length - p := by rw [List.length_drop, List.length_map]
                    rw [e5] at hr5
                    obtain ⟨g5, ea5, -⟩ := row_at hr5 (by omega)
                    subst ea5
                    have hlen5 : ((l.map vi).take p).length + 1 + ((l.map vi).drop p).length = (insI x.1 l).length := by rw [HEND.out]; simp; omega
                    have hcs5 : ((l.map vi).take p) ++ [vi x.1] ++ (l.map vi).drop p = (insI x.1 l).map vi := by rw [HEND.out]; simp [List.map_take, List.map_drop]
                    rw [hlen5] at e5 hr5
                    rw [hcs5] at hr5
                    have hz5 : RowZ wq (.slice (some ⟨g5, 0, none⟩) (insI x.1 l).length c5) (insI x.1 l) := ⟨g5, c5, rfl, row_any hr5⟩
                    have ho5 := HO6.out.later HBS
                    have HF := Lib.hid (ho5.put HLQ.out hz5)
                    obtain ⟨-, cells, hrr, hcc⟩ := ho5
                    obtain ⟨uu, hu1, -⟩ := hcc a HLQ.out
                    obtain ⟨co, fo, lo⟩ := row_cell hrr hu1
                    have hgW := (hrr.lt ga rfl).1
                    clear hrr hcc
                    rw [e5] at hK ⊢
                    go_simp
                    exact hK.out _ _ ((Below.refl _ _).setCell (p := ⟨ga, a, none⟩) hgW _) (fun u hu => by cases hu) (hJ.s20 hall HF.out undef) _ rfl
                  case zfin =>
                    intro wq hbw D st hall hJ
                    simp only [FinAll, lfOf]
                    simp only [Act.put, List.setIfInBounds_toArray, List.set_cons_zero, List.set_cons_succ]
                    have HF := Lib.hid (hJ.fin (hall 20 (by decide)))
                    clear hJ hall hbw
                    generalize st 3 = x3
                    generalize st 7 = x7
                    generalize st 13 = x13
                    generalize st 14 = x14
                    generalize st 18 = x18
                    try generalize st 20 = x20
                    go_wp2
                    go_roundg (t.length - (i + 1))
                    case measure => have := HM.out; have := HLT.out.1; omega
                    case rel => exact ⟨i + 1, by have := HLT.out.1; have := HM.out; omega, by go_num, by have h := HF.out; rw [← HSETL.out] at h; rw [← HQE.out.1]; exact h⟩
            · have hpl2 : ¬ (p : Int) < l.length := by omega
              have HEND := Lib.hid (HHALT.out fun h => absurd h hpl)
              clear HHALT HGO
              go_wp2_with fail
              refine region_left [.is (.int .i64 (p : Int)), .is (.slice (some ⟨g2, 0, none⟩) l.length lc), .is (.int .i64 (l.length : Int)), .is (.bool false), .is (.bool false), .is undef, .is undef, .is undef, .is undef, .is undef, .is undef, .is undef, .is undef, .is undef, .is undef, .is (.bool false)] (by kernel_rfl) rfl (by kernel_rfl) (by kernel_rfl) (.cons ?e0 (.cons ?e1 (.cons ?e2 (.cons ?e3 (.cons ?e4 (.cons ?e5 (.cons ?e6 (.cons ?e7 (.cons ?e8 (.cons ?e9 (.cons ?e10 (.cons ?e11 (.cons ?e12 (.cons ?e13 (.cons ?e14 (.cons ?e15 .nil)))))))))))))))) ?efin
              case e0 =>
                intro w6 hbw st  K hK
                simp only [Act.put, List.setIfInBounds_toArray, List.set_cons_zero, List.set_cons_succ] at hK ⊢
                unfold opStep
                rw [if_pos (by rfl)]
                go_simp
                exact hK.out _ _ (Below.refl _ _) rfl _ rfl
              case e1 =>
                intro w6 hbw st  K hK
                simp only [Act.put, List.setIfInBounds_toArray, List.set_cons_zero, List.set_cons_succ] at hK ⊢
                unfold opStep
                rw [if_pos (by rfl)]
                go_simp
                exact hK.out _ _ (Below.refl _ _) rfl _ rfl
              case e2 =>
                intro w6 hbw st  K hK
                simp only [Act.put, List.setIfInBounds_toArray, List.set_cons_zero, List.set_cons_succ] at hK ⊢
                unfold opStep
                rw [if_pos (by rfl)]
                go_simp
                exact hK.out _ _ (Below.refl _ _) rfl _ rfl
              case e3 =>
                intro w6 hbw st  K hK
                simp only [Act.put, List.setIfInBounds_toArray, List.set_cons_zero, List.set_cons_succ] at hK ⊢
                unfold opStep
                rw [if_pos (by rfl)]
                go_simp
                exact hK.out _ _ (Below.refl _ _) rfl _ rfl
              case e4 =>
                intro w6 hbw st  K hK
                simp only [Act.put, List.setIfInBounds_toArray, List.set_cons_zero, List.set_cons_succ] at hK ⊢
                unfold opStep
                rw [if_pos (by rfl)]
                go_simp
                exact hK.out _ _ (Below.refl _ _) rfl _ rfl
              case e5 =>
                intro w6 hbw st  K hK
                simp only [Act.put, List.setIfInBounds_toArray, List.set_cons_zero, List.set_cons_succ] at hK ⊢
                unfold opStep
                rw [if_neg (by change ¬ (false = true); exact Bool.false_ne_true)]
                exact hK.out _ _ (Below.refl _ _) rfl _ rfl
              case e6 =>
                intro w6 hbw st  K hK
                simp only [Act.put, List.setIfInBounds_toArray, List.set_cons_zero, List.set_cons_succ] at hK ⊢
                unfold opStep
                rw [if_neg (by change ¬ (false = true); exact Bool.false_ne_true)]
                exact hK.out _ _ (Below.refl _ _) rfl _ rfl
              case e7 =>
                intro w6 hbw st  K hK
                simp only [Act.put, List.setIfInBounds_toArray, List.set_cons_zero, List.set_cons_succ] at hK ⊢
                unfold opStep
                rw [if_neg (by change ¬ (false = true); exact Bool.false_ne_true)]
                exact hK.out _ _ (Below.refl _ _) rfl _ rfl
              case e8 =>
                intro w6 hbw st  K hK
                simp only [Act.put, List.setIfInBounds_toArray, List.set_cons_zero, List.set_cons_succ] at hK ⊢
                unfold opStep
                rw [if_neg (by change ¬ (false = true); exact Bool.false_ne_true)]
                exact hK.out _ _ (Below.refl _ _) rfl _ rfl
              case e9 =>
                intro w6 hbw st  K hK
                simp only [Act.put, List.setIfInBounds_toArray, List.set_cons_zero, List.set_cons_succ] at hK ⊢
                unfold opStep
                rw [if_neg (by change ¬ (false = true); exact Bool.false_ne_true)]
                exact hK.out _ _ (Below.refl _ _) rfl _ rfl
              case e10 =>
                intro w6 hbw st  K hK
                simp only [Act.put, List.setIfInBounds_toArray, List.set_cons_zero, List.set_cons_succ] at hK ⊢
                unfold opStep
                rw [if_neg (by change ¬ (false = true); exact Bool.false_ne_true)]
                exact hK.out _ _ (Below.refl _ _) rfl _ rfl
              case e11 =>
                intro w6 hbw st  K hK
                simp only [Act.put, List.setIfInBounds_toArray, List.set_cons_zero, List.set_cons_succ] at hK ⊢
                unfold opStep
                rw [if_neg (by change ¬ (false = true); exact Bool.false_ne_true)]
                exact hK.out _ _ (Below.refl _ _) rfl _ rfl
              case e12 =>
                intro w6 hbw st  K hK
                simp only [Act.put, List.setIfInBounds_toArray, List.set_cons_zero, List.set_cons_succ] at hK ⊢
                unfold opStep
                rw [if_neg (by change ¬ (false = true); exact Bool.false_ne_true)]
                exact hK.out _ _ (Below.refl _ _) rfl _ rfl
              case e13 =>
                intro w6 hbw st  K hK
                simp only [Act.put, List.setIfInBounds_toArray, List.set_cons_zero, List.set_cons_succ] at hK ⊢
                unfold opStep
                rw [if_neg (by change ¬ (false = true); exact Bool.false_ne_true)]
                exact hK.out _ _ (Below.refl _ _) rfl _ rfl
              case e14 =>
                intro w6 hbw st  K hK
                simp only [Act.put, List.setIfInBounds_toArray, List.set_cons_zero, List.set_cons_succ] at hK ⊢
                unfold opStep
                rw [if_neg (by change ¬ (false = true); exact Bool.false_ne_true)]
                exact hK.out _ _ (Below.refl _ _) rfl _ rfl
              case e15 =>
                intro w6 hbw st  K hK
                simp only [Act.put, List.setIfInBounds_toArray, List.set_cons_zero, List.set_cons_succ] at hK ⊢
                unfold opStep
                rw [if_pos (by rfl)]
                go_simp
                exact hK.out _ _ (Below.refl _ _) rfl _ rfl
              case efin =>
                intro w6 hbw
                try simp only [FinAll]
                simp only [Act.put, List.setIfInBounds_toArray, List.set_cons_zero, List.set_cons_succ]
                replace K5 := Lib.hid (K5.out.trans (hbw.mono K5.out.size))
                clear hbw KR5 HROW5 HO5
                have HROW6 := Lib.hid (HROW.out.on K5.out)
                have HO6 := Lib.hid (HO3.out.later K5.out)
                have KR6 := Lib.hid (KW.out.trans (K5.out.mono KW.out.size))
                have hple : p ≤ l.length := by have := HM3.out; omega
                clear K5 HALL
                obtain ⟨sa, hsa⟩ : ∃ sa : Option Addr, sa = (if lc = p then some ⟨g2, 0, none⟩ else some ⟨g2, p, none⟩) := ⟨_, rfl⟩
                obtain ⟨sad, hsad⟩ : ∃ sad : Addr, sa = some sad ∧ (p < l.length → sad = ⟨g2, p, none⟩) := by
                  rw [hsa]
                  by_cases e : lc = p
                  · rw [if_pos e]; exact ⟨_, rfl, fun h => by omega⟩
                  · rw [if_neg e]; exact ⟨_, rfl, fun _ => rfl⟩
                have HSA := Lib.hid (And.intro hsa hsad)
                have HLL := Lib.hid hlll
                clear hsa hsad
                go_upto_region 12 with fail
                refine region_inv W.heap.size (JL w6.heap.size w6 (vi x.1) ((l.map vi).take p) ((l.map vi).drop p) (fun w => OutZ W w (.slice (some ⟨ga, 0, none⟩) LL.length oc) (LL.set a (insI x.1 l)))) [some (.slice (some ⟨ga, 0, none⟩) LL.length oc), some (.int .i64 (n : Int)), some (.int .i64 (a : Int)), none, some (.slice (some ⟨g2, 0, none⟩) l.length lc), some (.int .i64 (p : Int)), some (.slice (some ⟨g2, 0, none⟩) p lc), none, some (.slice (some ⟨b, off, none⟩) t.length cap), some (.int .i64 (i : Int)), some (.pointer (some ⟨b, off + i * 2, none⟩)), some (.pointer (some ⟨b, off + i * 2, none⟩)), some (.int .i64 x.1), none, none, some (.slice (some ⟨g2, 0, none⟩) l.length lc), some (.int .i64 (p : Int)), some (.slice sa (l.length - p) (lc - p)), none, some (.pointer (some ⟨ga, a, none⟩)), none] (by kernel_rfl) rfl (by kernel_rfl) (by kernel_rfl) (JL.start) (.cons ?z0 (.cons ?z1 (.cons ?z2 (.cons ?z3 (.cons ?z4 (.cons ?z5 (.cons ?z6 (.cons ?z7 (.cons ?z8 (.cons ?z9 (.cons ?z10 (.cons ?z11 (.cons ?z12 (.cons ?z13 (.cons ?z14 (.cons ?z15 (.cons ?z16 (.cons ?z17 (.cons ?z18 (.cons ?z19 (.cons ?z20 .nil))))))))))))))))))))) ?zfin
                case z0 =>
                  intro wq hbw D st hJ hD hdp K hK
                  simp only [Act.put, List.setIfInBounds_toArray, List.set_cons_zero, List.set_cons_succ] at hK ⊢
                  unfold opStep
                  rw [if_pos (by rfl)]
                  go_simp
                  exact hK.out _ _ (Below.refl _ _) (fun u hu => Option.some.inj hu) (hJ.pure 0 _ (by decide) hD (by decide) (by decide) (by decide) (by decide) (by decide)) _ rfl
                case z1 =>
                  intro wq hbw D st hJ hD hdp K hK
                  simp only [Act.put, List.setIfInBounds_toArray, List.set_cons_zero, List.set_cons_succ] at hK ⊢
                  unfold opStep
                  rw [if_pos (by rfl)]
                  go_simp
                  exact hK.out _ _ (Below.refl _ _) (fun u hu => Option.some.inj hu) (hJ.pure 1 _ (by decide) hD (by decide) (by decide) (by decide) (by decide) (by decide)) _ rfl
                case z2 =>
                  intro wq hbw D st hJ hD hdp K hK
                  simp only [Act.put, List.setIfInBounds_toArray, List.set_cons_zero, List.set_cons_succ] at hK ⊢
                  unfold opStep
                  rw [if_pos (by rfl)]
                  go_simp
                  exact hK.out _ _ (Below.refl _ _) (fun u hu => Option.some.inj hu) (hJ.pure 2 _ (by decide) hD (by decide) (by decide) (by decide) (by decide) (by decide)) _ rfl
                case z3 =>
                  intro wq hbw D st hJ hD hdp K hK
                  simp only [Act.put, List.setIfInBounds_toArray, List.set_cons_zero, List.set_cons_succ] at hK ⊢
                  unfold opStep
                  rw [if_pos (by rfl)]
                  go_simp
                  have HBS := hJ.bel (by decide) hD
                  have hsz := HBS.size
                  exact hK.out _ _ ((Below.refl _ _).alloc (Nat.le_trans KR6.out.size hbw.size) _) (fun u hu => by cases hu) (hJ.s3 hD hsz) _ rfl
                case z4 =>
                  intro wq hbw D st hJ hD hdp K hK
                  simp only [Act.put, List.setIfInBounds_toArray, List.set_cons_zero, List.set_cons_succ] at hK ⊢
                  unfold opStep
                  rw [if_pos (by rfl)]
                  go_simp
                  exact hK.out _ _ (Below.refl _ _) (fun u hu => Option.some.inj hu) (hJ.pure 4 _ (by decide) hD (by decide) (by decide) (by decide) (by decide) (by decide)) _ rfl
                case z5 =>
                  intro wq hbw D st hJ hD hdp K hK
                  simp only [Act.put, List.setIfInBounds_toArray, List.set_cons_zero, List.set_cons_succ] at hK ⊢
                  unfold opStep
                  rw [if_pos (by rfl)]
                  go_simp
                  exact hK.out _ _ (Below.refl _ _) (fun u hu => Option.some.inj hu) (hJ.pure 5 _ (by decide) hD (by decide) (by decide) (by decide) (by decide) (by decide)) _ rfl
                case z6 =>
                  intro wq hbw D st hJ hD hdp K hK
                  simp only [Act.put, List.setIfInBounds_toArray, List.set_cons_zero, List.set_cons_succ] at hK ⊢
                  unfold opStep
                  rw [if_pos (by rfl)]
                  go_simp
                  exact hK.out _ _ (Below.refl _ _) (fun u hu => Option.some.inj hu) (hJ.pure 6 _ (by decide) hD (by decide) (by decide) (by decide) (by decide) (by decide)) _ rfl
                case z7 =>
                  intro wq hbw D st hJ hD hdp K hK
                  simp only [Act.put, List.setIfInBounds_toArray, List.set_cons_zero, List.set_cons_succ] at hK ⊢
                  unfold opStep
                  rw [if_pos (by rfl)]
                  have HBS := hJ.bel (by decide) hD
                  have hsz := HBS.size
                  have d3 := hdp 3 (of_decide_eq_true (by kernel_rfl))
                  obtain ⟨h0, h1⟩ := hJ.at3 d3 hD
                  have hsrc := (row_take (HROW6.out.on HBS).row hple).cells (g := g2) rfl
                  have hxl : ((l.map vi).take p).length = p := by rw [List.length_take, List.length_map]; omega
                  refine wp_append_blkM (.tmp 52) (.tmp 55) rfl w6.heap.size (st 3) 0 [] ⟨g2, 0, none⟩ p lc ((l.map vi).take p) rfl rfl hxl hsrc (fun u hu => vis_one u (List.mem_of_mem_take hu)) h0 (by have := HLL.out; omega) hsz ?_
                  intro v5 w7 r5 g5 b5
                  obtain ⟨hj5, hb5⟩ := hJ.s7 d3 hD hsz (by rw [hxl]; exact r5) g5 b5
                  exact hK.out _ _ (hb5.mono KR6.out.size) (fun u hu => by cases hu) hj5 _ rfl
                case z8 =>
                  intro wq hbw D st hJ hD hdp K hK
                  simp only [Act.put, List.setIfInBounds_toArray, List.set_cons_zero, List.set_cons_succ] at hK ⊢
                  unfold opStep
                  rw [if_pos (by rfl)]
                  go_simp
                  exact hK.out _ _ (Below.refl _ _) (fun u hu => Option.some.inj hu) (hJ.pure 8 _ (by decide) hD (by decide) (by decide) (by decide) (by decide) (by decide)) _ rfl
                case z9 =>
                  intro wq hbw D st hJ hD hdp K hK
                  simp only [Act.put, List.setIfInBounds_toArray, List.set_cons_zero, List.set_cons_succ] at hK ⊢
                  unfold opStep
                  rw [if_pos (by rfl)]
                  go_simp
                  exact hK.out _ _ (Below.refl _ _) (fun u hu => Option.some.inj hu) (hJ.pure 9 _ (by decide) hD (by decide) (by decide) (by decide) (by decide) (by decide)) _ rfl
                case z10 =>
                  intro wq hbw D st hJ hD hdp K hK
                  simp only [Act.put, List.setIfInBounds_toArray, List.set_cons_zero, List.set_cons_succ] at hK ⊢
                  unfold opStep
                  rw [if_pos (by rfl)]
                  go_simp
                  exact hK.out _ _ (Below.refl _ _) (fun u hu => Option.some.inj hu) (hJ.pure 10 _ (by decide) hD (by decide) (by decide) (by decide) (by decide) (by decide)) _ rfl
                case z11 =>
                  intro wq hbw D st hJ hD hdp K hK
                  simp only [Act.put, List.setIfInBounds_toArray, List.set_cons_zero, List.set_cons_succ] at hK ⊢
                  unfold opStep
                  rw [if_pos (by rfl)]
                  go_simp
                  exact hK.out _ _ (Below.refl _ _) (fun u hu => Option.some.inj hu) (hJ.pure 11 _ (by decide) hD (by decide) (by decide) (by decide) (by decide) (by decide)) _ rfl
                case z12 =>
                  intro wq hbw D st hJ hD hdp K hK
                  simp only [Act.put, List.setIfInBounds_toArray, List.set_cons_zero, List.set_cons_succ] at hK ⊢
                  unfold opStep
                  rw [if_pos (by rfl)]
                  have dd := Lib.hid (HX.out.1 _ (KR6.out.trans hbw))
                  have d0 := dd.out.1
                  have d1 := dd.out.2
                  go_simp
                  exact hK.out _ _ (Below.refl _ _) (fun u hu => Option.some.inj hu) (hJ.pure 12 _ (by decide) hD (by decide) (by decide) (by decide) (by decide) (by decide)) _ rfl
                case z13 =>
                  intro wq hbw D st hJ hD hdp K hK
                  simp only [Act.put, List.setIfInBounds_toArray, List.set_cons_zero, List.set_cons_succ] at hK ⊢
                  unfold opStep
                  rw [if_pos (by rfl)]
                  go_simp
                  have HBS := hJ.bel (by decide) hD
                  have hsz := HBS.size
                  exact hK.out _ _ ((Below.refl _ _).alloc (Nat.le_trans KR6.out.size hbw.size) _) (fun u hu => by cases hu) (hJ.s13 hD hsz) _ rfl
                case z14 =>
                  intro wq hbw D st hJ hD hdp K hK
                  simp only [Act.put, List.setIfInBounds_toArray, List.set_cons_zero, List.set_cons_succ] at hK ⊢
                  unfold opStep
                  rw [if_pos (by rfl)]
                  have HBS := hJ.bel (by decide) hD
                  have hsz := HBS.size
                  have d7 := hdp 7 (of_decide_eq_true (by kernel_rfl))
                  have d13 := hdp 13 (of_decide_eq_true (by kernel_rfl))
                  obtain ⟨h0, h1⟩ := hJ.at7 d7 hD
                  obtain ⟨gb, e13, hB13, -⟩ := h1 d13
                  have hxl : ((l.map vi).take p).length = p := by rw [List.length_take, List.length_map]; omega
                  refine wp_append_blkM (.tmp 56) (.tmp 62) rfl w6.heap.size (st 7) ((l.map vi).take p).length ((l.map vi).take p) ⟨gb, 0, none⟩ 1 1 [vi x.1] rfl (by show st 13 = _; rw [e13]) rfl (fun j u hu => by rw [addr0, hB13.cell]; simpa using hu) (fun u hu => by rw [List.mem_singleton.1 hu]; rfl) h0 (by have := HLL.out; omega) hsz ?_
                  intro v5 w7 r5 g5 _
                  obtain ⟨hj5, hb5⟩ := hJ.s14 d7 d13 hD hsz r5 g5
                  exact hK.out _ _ (hb5.mono KR6.out.size) (fun u hu => by cases hu) hj5 _ rfl
                case z15 =>
                  intro wq hbw D st hJ hD hdp K hK
                  simp only [Act.put, List.setIfInBounds_toArray, List.set_cons_zero, List.set_cons_succ] at hK ⊢
                  unfold opStep
                  rw [if_pos (by rfl)]
                  go_simp
                  exact hK.out _ _ (Below.refl _ _) (fun u hu => Option.some.inj hu) (hJ.pure 15 _ (by decide) hD (by decide) (by decide) (by decide) (by decide) (by decide)) _ rfl
                case z16 =>
                  intro wq hbw D st hJ hD hdp K hK
                  simp only [Act.put, List.setIfInBounds_toArray, List.set_cons_zero, List.set_cons_succ] at hK ⊢
                  unfold opStep
                  rw [if_pos (by rfl)]
                  go_simp
                  exact hK.out _ _ (Below.refl _ _) (fun u hu => Option.some.inj hu) (hJ.pure 16 _ (by decide) hD (by decide) (by decide) (by decide) (by decide) (by decide)) _ rfl
                case z17 =>
                  intro wq hbw D st hJ hD hdp K hK
                  simp only [Act.put, List.setIfInBounds_toArray, List.set_cons_zero, List.set_cons_succ] at hK ⊢
                  unfold opStep
                  rw [if_pos (by rfl)]
                  go_simp
                  rw [← HSA.out.1]
                  exact hK.out _ _ (Below.refl _ _) (fun u hu => Option.some.inj hu) (hJ.pure 17 _ (by decide) hD (by decide) (by decide) (by decide) (by decide) (by decide)) _ rfl
                case z18 =>
                  intro wq hbw D st hJ hD hdp K hK
                  simp only [Act.put, List.setIfInBounds_toArray, List.set_cons_zero, List.set_cons_succ] at hK ⊢
                  unfold opStep
                  rw [if_pos (by rfl)]
                  have HBS := hJ.bel (by decide) hD
                  have hsz := HBS.size
                  have d14 := hdp 14 (of_decide_eq_true (by kernel_rfl))
                  have h0 := hJ.at14 d14 hD
                  obtain ⟨hs1, hs2⟩ := HSA.out.2
                  have hxl : ((l.map vi).take p).length = p := by rw [List.length_take, List.length_map]; omega
                  have hyl : ((l.map vi).drop p).length = l.length - p := by rw [List.length_drop, List.length_map]
                  have hsrc := row_tail (HROW6.out.on HBS).row hs2
                  refine wp_append_blkM (.tmp 63) (.tmp 66) rfl w6.heap.size (st 14) (((l.map vi).take p).length + 1) (((l.map vi).take p) ++ [vi x.1]) sad (l.length - p) (lc - p) ((l.map vi).drop p) rfl (congrArg (fun q => Value.slice q (l.length - p) (lc - p)) hs1) hyl hsrc (fun u hu => vis_one u (List.mem_of_mem_drop hu)) h0 (by have := HLL.out; omega) hsz ?_
                  intro v5 w7 r5 g5 _
                  obtain ⟨hj5, hb5⟩ := hJ.s18 d14 hD hsz (by rw [hyl]; exact r5) g5
                  exact hK.out _ _ (hb5.mono KR6.out.size) (fun u hu => by cases hu) hj5 _ rfl
                case z19 =>
                  intro wq hbw D st hJ hD hdp K hK
                  simp only [Act.put, List.setIfInBounds_toArray, List.set_cons_zero, List.set_cons_succ] at hK ⊢
                  unfold opStep
                  rw [if_pos (by rfl)]
                  go_simp
                  exact hK.out _ _ (Below.refl _ _) (fun u hu => Option.some.inj hu) (hJ.pure 19 _ (by decide) hD (by decide) (by decide) (by decide) (by decide) (by decide)) _ rfl
                case z20 =>
                  intro wq hbw D st hJ hD hdp K hK
                  simp only [Act.put, List.setIfInBounds_toArray, List.set_cons_zero, List.set_cons_succ] at hK ⊢
                  unfold opStep
                  rw [if_pos (by rfl)]
                  have hall : ∀ j, j < 20 → D j = true := all_of (n := 20) (by kernel_rfl) hdp
                  obtain ⟨hr5, HBS⟩ := hJ.at18 (hall 18 (by decide)) hD
                  obtain ⟨a5, c5, e5⟩ := row_slc hr5
                  have hxl : ((l.map vi).take p).length = p := by rw [List.length_take, List.length_map]; omega
                  have hyl : ((l.map vi).drop p).length = l.length - p := by rw [List.length_drop, List.length_map]
                  rw [e5] at hr5
                  obtain ⟨g5, ea5, -⟩ := row_at hr5 (by omega)
                  subst ea5
                  have hlen5 : ((l.map vi).take p).length + 1 + ((l.map vi).drop p).length = (insI x.1 l).length := by rw [HEND.out]; simp; omega
                  have hcs5 : ((l.map vi).take p) ++ [vi x.1] ++ (l.map vi).drop p = (insI x.1 l).map vi := by rw [HEND.out]; simp [List.map_take, List.map_drop]
                  rw [hlen5] at e5 hr5
                  rw [hcs5] at hr5
                  have hz5 : RowZ wq (.slice (some ⟨g5, 0, none⟩) (insI x.1 l).length c5) (insI x.1 l) := ⟨g5, c5, rfl, row_any hr5⟩
                  have ho5 := HO6.out.later HBS
                  have HF := Lib.hid (ho5.put HLQ.out hz5)
                  obtain ⟨-, cells, hrr, hcc⟩ := ho5
                  obtain ⟨uu, hu1, -⟩ := hcc a HLQ.out
                  obtain ⟨co, fo, lo⟩ := row_cell hrr hu1
                  have hgW := (hrr.lt ga rfl).1
                  clear hrr hcc
                  rw [e5] at hK ⊢
                  go_simp
                  exact hK.out _ _ ((Below.refl _ _).setCell (p := ⟨ga, a, none⟩) hgW _) (fun u hu => by cases hu) (hJ.s20 hall HF.out undef) _ rfl
                case zfin =>
                  intro wq hbw D st hall hJ
                  simp only [FinAll, lfOf]
                  simp only [Act.put, List.setIfInBounds_toArray, List.set_cons_zero, List.set_cons_succ]
                  have HF := Lib.hid (hJ.fin (hall 20 (by decide)))
                  clear hJ hall hbw
                  generalize st 3 = x3
                  generalize st 7 = x7
                  generalize st 13 = x13
                  generalize st 14 = x14
                  generalize st 18 = x18
                  try generalize st 20 = x20
                  go_wp2
                  go_roundg (t.length - (i + 1))
                  case measure => have := HM.out; have := HLT.out.1; omega
                  case rel => exact ⟨i + 1, by have := HLT.out.1; have := HM.out; omega, by go_num, by have h := HF.out; rw [← HSETL.out] at h; rw [← HQE.out.1]; exact h⟩
    · have e : i = t.length := by have := HM.out; omega
      subst e
      have hii : ¬ (t.length : Int) < (t.length : Int) := by omega
      go_wp2
      go_ret
      exact ⟨_, rfl, by have h := HO.out; rw [layK_all] at h; exact h⟩
end Go.Proofs.Ytfdicndmebhmdaa
