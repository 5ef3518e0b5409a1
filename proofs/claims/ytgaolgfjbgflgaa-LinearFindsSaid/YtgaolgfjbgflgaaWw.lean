/-
  Chapter 56: linear.Witness.
-/
import Derived.Test.YtgaolgfjbgflgaaWp
import Derived.Test.YtgaolgfjbgflgaaHg
import Derived.Test.YtgaolgfjbgflgaaMo
namespace Go.Proofs.Ytgaolgfjbgflgaa
open Go.RowKit

theorem witM_low {h : List Opn} {is : List Int} {l : List Nat} {k : Nat} (hk : k < is.length) (hx : is[k] < 0) : witM h (is.drop k) l = false := by rw [List.drop_eq_getElem_cons hk, witM, if_pos hx]
theorem witM_high {h : List Opn} {is : List Int} {l : List Nat} {k : Nat} (hk : k < is.length) (hx : (h.length : Int) ≤ is[k]) : witM h (is.drop k) l = false := by
  rw [List.drop_eq_getElem_cons hk, witM]
  by_cases h0 : is[k] < 0
  · rw [if_pos h0]
  · rw [if_neg h0, if_pos hx]
theorem witM_at {h : List Opn} {is : List Int} {l : List Nat} {k x : Nat} (hk : k < is.length) (hx : is[k] = (x : Int)) (hlt : x < h.length) : witM h (is.drop k) l = if mayB h (maskL l) x = true then witM h (is.drop (k + 1)) (l ++ [x]) else false := by
  rw [List.drop_eq_getElem_cons hk, witM, hx, if_neg (by omega), if_neg (by omega), Int.toNat_natCast]
theorem mem_intsN {l : List Nat} {x : Nat} : (x : Int) ∈ intsN l ↔ x ∈ l := by
  unfold intsN
  rw [List.mem_map]
  constructor
  · rintro ⟨a, ha, he⟩
    have : a = x := by omega
    exact this ▸ ha
  · exact fun hx => ⟨x, hx, rfl⟩
theorem intsN_snoc (l : List Nat) (x : Nat) : intsN (l ++ [x]) = intsN l ++ [(x : Int)] := by simp [intsN]
/-- What the walk carries: done and added. -/
def WitS (h : List Opn) (w1 w : World) (l : List Nat) (S : List Str) : Prop :=
  SetB w (w1.heap.size + 1) S.length S ∧ Blk w w1.heap.size 4 (uA h.length (intsN l)) ∧ Below w1.heap.size w1 w
theorem WitS.on {h : List Opn} {w1 w w' : World} {l : List Nat} {S : List Str} (hs : WitS h w1 w l S) (hb : Below w.heap.size w w') : WitS h w1 w' l S :=
  ⟨hs.1.on hb, hs.2.1.on hb, hs.2.2.trans (hb.mono hs.2.2.size)⟩

theorem wit_sees {h : List Opn} {l : List Nat} {x : Nat} {S : List Str} (hx : x < h.length) (hS : ∀ s, s ∈ S ↔ s ∈ seesL h (maskL l)) : ∀ s, s ∈ S ++ addO (nth h x) ↔ s ∈ seesL h (maskL (l ++ [x])) := by
  intro s
  rw [List.mem_append, hS, mem_sees, mem_sees, maskL_snoc]
  constructor
  · rintro (⟨i, h1, h2, h3⟩ | h1)
    · exact ⟨i, h1, by rw [addM_bit, h2]; rfl, h3⟩
    · exact ⟨x, hx, by rw [addM_bit]; simp, h1⟩
  · rintro ⟨i, h1, h2, h3⟩
    rw [addM_bit, Bool.or_eq_true] at h2
    rcases h2 with h2 | h2
    · exact .inl ⟨i, h1, h2, h3⟩
    · rw [← of_decide_eq_true h2] at h3; exact .inr h3
theorem wit_may {h : List Opn} (hw : Well h) {l : List Nat} {x : Nat} {S : List Str} (hx : x < h.length) (hl : x ∉ l) (hf : freeB h (maskL l) x = true) (hS : ∀ s, s ∈ S ↔ s ∈ seesL h (maskL l)) {o : Opn} (ho : nth h x = o) :
    mayB h (maskL l) x = true ↔ (kindO o = 1 ∨ 0 ≤ endO o ∧ (seeO o).length = (uniq S).length ∧ ∀ s ∈ seeO o, s ∈ S) := by
  subst ho
  rw [may_iff, maskL_bit, decide_eq_false hl, sees_set hw hx hS (uniq_nodup S) (uniq_mem S)]
  exact ⟨fun h1 => h1.2.2, fun h1 => ⟨rfl, hf, h1⟩⟩
theorem wit_add {h : List Opn} (hw : Well h) {x : Nat} (hx : x < h.length) {o : Opn} (ho : nth h x = o) : ¬ kindO o = 1 → addO o = [] := by
  subst ho
  intro hk
  rcases (form_of (hw.1 _ (nth_mem hx))).2.2.2.2.2 with h1 | h1
  · exact absurd h1.1 hk
  · exact h1.2.1
theorem uniq_le (S : List Str) : (uniq S).length ≤ S.length := nodup_le (uniq_nodup S) fun x hx => (uniq_mem S x).1 hx

set_option maxRecDepth 100000 in
set_option maxHeartbeats 16000000 in
theorem lwit_any (v u : Value) (h : List Opn) (is : List Int) (W : World) (hr : ReadsO W v h) (hq : Reads vi W u is) (hs : SmallH h) (hi : is.length ≤ 1000) : Calls Try.prog 19 #[v, u] W (BoolMade W (rwitB h is)) := by
  obtain ⟨i0, hinf, hz0, hz1, hz2⟩ := info_parts Try.infoBool
  have HR := Lib.hid hr
  have HQ := Lib.hid hq
  have HS := Lib.hid hs
  have HCH := Lib.hid (check_any v h W hr hs)
  have hn := hs.1
  obtain ⟨ao, cap, rfl, hl, hm, -, -⟩ := hr
  unfold maxLen at hm
  obtain ⟨ua, uk, rfl, huk, hul⟩ := slcI2 hq
  clear hq hs
  have HBAD : Hid (¬ (chkL h).2 = 0 → rwitB h is = false) := Lib.hid fun h0 => by
    have : wellB h = false := decide_eq_false h0
    unfold rwitB; rw [this]; rfl
  have HGOOD : Hid ((chkL h).2 = 0 → Well h ∧ witM h (is.drop 0) [] = rwitB h is) := Lib.hid fun h0 => by
    have hw := well_of (h := h) (decide_eq_true h0)
    exact ⟨hw, (wit_all hw is).symm⟩
  generalize rwitB h is = res at *
  unfold ChkMade at HCH
  have hmk : ∀ w1 : World, (Instr.makeSlice 66 (.int .i64 (h.length : Int)) (.int .i64 (h.length : Int))).run Try.prog w1 = .ok (.slice (some ⟨w1.heap.size, 0, none⟩) h.length h.length) (w1.alloc (.cells (uA h.length []) 4)) := fun w1 => by
    have h0 := run_make (P := Try.prog) w1 66 4 i0 (.bool false) Try.underlying66 hinf hz0 .i64 .i64 (h.length : Int) (h.length : Int) (by omega) (Int.le_refl _) (by rw [hz2]; omega) (by omega)
    have e : ((h.length : Nat) : Int).toNat = h.length := by omega
    rw [e] at h0
    have e2 : madeCells (Value.bool false).cells (h.length * i0.size) = uA h.length [] := by rw [hz1, Nat.mul_one]; exact uA_nil _
    rw [e2] at h0
    exact h0
  have HMK := Lib.hid hmk
  clear hinf hz0 hz1 hz2 hmk
  go_enter Try.func19, Try.ntmps19
  go_wp2_with fail
  refine HCH.out.mono ?_
  rintro e w1 ⟨rfl, hb1⟩
  have KW := Lib.hid hb1
  clear hb1 HCH
  by_cases h0 : (chkL h).2 = 0
  · obtain ⟨hw, hwit⟩ := HGOOD.out h0
    have HW := Lib.hid hw
    have HWI := Lib.hid hwit
    have e0 := bne_f h0
    have hmk := HMK.out w1
    clear h0 hw hwit HGOOD HBAD
    go_wp2_with (refine wpList_make_map rfl 67 rfl ?_)
    clear e0
    generalize hwm : World.alloc (World.alloc w1 _) _ = wm
    have HM0 : Hid (WitS h w1 wm [] []) := Lib.hid (by
      subst hwm
      refine ⟨?_, (Blk.new _ _ _).alloc _, below_two _ _ _⟩
      have h1 := SetB.made (w1.alloc (.cells (uA h.length []) 4))
      rwa [World.size_alloc] at h1)
    clear hwm hmk
    go_wp2
    go_loopg [30] is.length (fun m i wr => ∃ (k : Nat) (l : List Nat) (S : List Str), m + k = is.length ∧ i = .int .i64 k ∧ witM h (is.drop k) l = res ∧ (∀ z ∈ l, z < h.length) ∧ S.length ≤ 1000 * k ∧ (∀ s, s ∈ S ↔ s ∈ seesL h (maskL l)) ∧ WitS h w1 wr l S)
    case atStart => exact ⟨0, [], [], by omega, rfl, HWI.out, (fun z hz => by cases hz), by simp, (fun s => by rw [mem_sees]; simp [maskL]), HM0.out⟩
    case round =>
      clear HM0 HWI
      obtain ⟨k, l, S, hmk, rfl, hwl, hlm, hSl, hSm, hws⟩ := hrel
      have HM := Lib.hid hmk
      have HWL := Lib.hid hwl
      have HLM := Lib.hid hlm
      have HSM := Lib.hid hSm
      have HWS := Lib.hid hws
      have KB := Lib.hid hws.2.1
      have KW2 := Lib.hid (KW.out.trans (hws.2.2.mono KW.out.size))
      have hk : k ≤ is.length := by omega
      clear hmk hwl hlm hSm hws
      by_cases hlt : k < is.length
      · obtain ⟨bo, oo, co, hv, hbo, hco⟩ := int_at HQ.out hlt
        injection hv with e1 e2 e3
        subst e1
        have hki : (k : Int) < is.length := by omega
        have hk0 : (0 : Int) ≤ (k : Int) := by omega
        have q0 := (KW2.out.cell (p := ⟨bo, oo + k, none⟩) hbo).trans hco
        have HLO := Lib.hid (fun hx => HWL.out.symm.trans (witM_low (h := h) (l := l) hlt hx))
        have HHI := Lib.hid (fun hx => HWL.out.symm.trans (witM_high (h := h) (l := l) hlt hx))
        have HAT := Lib.hid (fun (x : Nat) hx hxl => HWL.out.symm.trans (witM_at (h := h) (l := l) (x := x) hlt hx hxl))
        unfold vi at q0
        clear e2 e3 hco hbo
        generalize is[k] = i at *
        clear hlt
        by_cases h1 : i < 0
        · have HE := Lib.hid (HLO.out h1)
          go_wp2
          go_ret
          exact ⟨ret_bool HE.out.symm, KW2.out⟩
        · by_cases h2 : (h.length : Int) ≤ i
          · have HE := Lib.hid (HHI.out h2)
            go_wp2
            go_ret
            exact ⟨ret_bool HE.out.symm, KW2.out⟩
          · obtain ⟨x, rfl⟩ := Int.eq_ofNat_of_zero_le (show 0 ≤ i by omega)
            have hxl : x < h.length := by omega
            have HAT2 := Lib.hid (HAT.out x rfl hxl)
            have c0 := (KB.out.cell x).trans (uA_at hxl)
            have f0 := KB.out.frozen x
            have hlt0 := KB.out.lt
            clear HLO HHI HAT
            by_cases h3 : x ∈ l
            · have HE : Hid (res = false) := Lib.hid (HAT2.out.trans (if_neg fun hm => by
                have := may_bit hm
                rw [maskL_bit, decide_eq_true h3] at this
                cases this))
              rw [decide_eq_true (mem_intsN.2 h3)] at c0
              clear h3
              go_wp2
              go_ret
              exact ⟨ret_bool HE.out.symm, KW2.out⟩
            · rw [decide_eq_false (fun hc => h3 (mem_intsN.1 hc))] at c0
              have HXL := Lib.hid h3
              clear h3
              go_wp2
              clear c0 f0
              obtain ⟨b, off, cap1, a4, c4, a5, c5, hv, _, _, hm4, hm5, hl4, hl5, hcell, r1, r2⟩ := HR.out.at2 hxl
              injection hv with e1 e2 e3
              subst e1
              have hxi : (x : Int) < h.length := by omega
              have hx0 : (0 : Int) ≤ (x : Int) := by omega
              have HN := Lib.hid (And.intro hcell (And.intro r1 r2))
              have HNX : Hid (nth h x = h[x]) := Lib.hid (nth_eq hxl)
              have HOL := Lib.hid (HS.out.2 _ (List.getElem_mem hxl))
              have HXN := Lib.hid (And.intro hxl trivial)
              clear e2 e3 hcell r1 r2
              generalize h[x] = o at *
              clear hxl
              obtain ⟨G2, hG2⟩ : ∃ G, G = gk := ⟨_, rfl⟩
              subst hG2
              go_loopg [50] h.length (fun m i wl => ∃ q : Nat, m + q = h.length ∧ i = .int .i64 q ∧ (∀ j, j < q → prI h x j = true → j ∉ l) ∧ Below wr.heap.size wr wl)
              case atStart => exact ⟨0, by omega, rfl, (fun j h => by omega), Below.refl _ _⟩
              case round =>
                obtain ⟨q, hmq, rfl, hall, hbel⟩ := hrel
                have HM2 := Lib.hid hmq
                have HALL := Lib.hid hall
                have KL := Lib.hid hbel
                have KW3 := Lib.hid (KW2.out.trans (hbel.mono KW2.out.size))
                have hq : q ≤ h.length := by omega
                clear hmq hall hbel
                by_cases hql : q < h.length
                · obtain ⟨b', off', cap2', d4, k4, d5, k5, hv, _, _, n4, n5, l4, l5, hcell, s1', s2'⟩ := HR.out.at2 hql
                  injection hv with e5 e6 e7
                  injection e5 with e5
                  injection e5 with e5 e8
                  subst e5 e8
                  have hqi : (q : Int) < h.length := by omega
                  have hq0 : (0 : Int) ≤ (q : Int) := by omega
                  have HN2 := Lib.hid (And.intro hcell (And.intro s1' s2'))
                  have HPE : Hid (prI h x q = precB o h[q]) := Lib.hid (by unfold prI; rw [HNX.out, nth_eq hql])
                  have HUA := Lib.hid (uA_at (U := intsN l) hql)
                  have HQN := Lib.hid (And.intro hql trivial)
                  clear e6 e7 hcell s1' s2'
                  generalize h[q] = y at *
                  clear hql
                  by_cases p1 : q ∈ l
                  · have HD : Hid ((uA h.length (intsN l))[q]? = some (.bool true)) := Lib.hid (by rw [HUA.out, decide_eq_true (mem_intsN.2 p1)])
                    by_cases p2 : precB o y = true
                    · have P1 := Lib.hid p2
                      have HE : Hid (res = false) := Lib.hid (HAT2.out.trans (if_neg fun hm => by
                        have h4 := free_iff.1 (may_free hm) q HQN.out.1 (HPE.out.trans p2)
                        rw [maskL_bit, decide_eq_true p1] at h4
                        cases h4))
                      clear p1 p2
                      go_wp2_with fail
                      refine region_left [.is (.slice (some ⟨w1.heap.size, 0, none⟩) h.length h.length), .is (.int .i64 (q : Int)), .is (.pointer (some ⟨w1.heap.size, q, none⟩)), .is (.bool true), .is (.bool true), .is (.slice (some ⟨b, off, none⟩) h.length cap), .is (.int .i64 (x : Int)), .is (.pointer (some ⟨b, off + x * 6, none⟩)), .is (.agg #[.int .i64 (cliO o), .int .i64 (kindO o), .int .i64 (begO o), .int .i64 (endO o), .slice a4 (addO o).length c4, .slice a5 (seeO o).length c5]), .is (.slice (some ⟨b, off, none⟩) h.length cap), .is (.int .i64 (q : Int)), .is (.pointer (some ⟨b, off + q * 6, none⟩)), .is (.agg #[.int .i64 (cliO y), .int .i64 (kindO y), .int .i64 (begO y), .int .i64 (endO y), .slice d4 (addO y).length k4, .slice d5 (seeO y).length k5]), .is (.bool true), .is (.bool true)] (by kernel_rfl) rfl (by kernel_rfl) (by kernel_rfl) (.cons ?q1_0 (.cons ?q1_1 (.cons ?q1_2 (.cons ?q1_3 (.cons ?q1_4 (.cons ?q1_5 (.cons ?q1_6 (.cons ?q1_7 (.cons ?q1_8 (.cons ?q1_9 (.cons ?q1_10 (.cons ?q1_11 (.cons ?q1_12 (.cons ?q1_13 (.cons ?q1_14 .nil))))))))))))))) ?q1_fin
                      case q1_0 =>
                        intro wq hbw st  K hK
                        have KQ := KW3.out.trans (hbw.mono KW3.out.size)
                        have KD := KL.out.trans (hbw.mono KL.out.size)
                        simp only [Act.put, List.setIfInBounds_toArray, List.set_cons_zero, List.set_cons_succ] at hK ⊢
                        unfold opStep
                        rw [if_pos (by rfl)]
                        go_simp
                        exact hK.out _ _ (Below.refl _ _) rfl _ rfl
                      case q1_1 =>
                        intro wq hbw st  K hK
                        have KQ := KW3.out.trans (hbw.mono KW3.out.size)
                        have KD := KL.out.trans (hbw.mono KL.out.size)
                        simp only [Act.put, List.setIfInBounds_toArray, List.set_cons_zero, List.set_cons_succ] at hK ⊢
                        unfold opStep
                        rw [if_pos (by rfl)]
                        go_simp
                        exact hK.out _ _ (Below.refl _ _) rfl _ rfl
                      case q1_2 =>
                        intro wq hbw st  K hK
                        have KQ := KW3.out.trans (hbw.mono KW3.out.size)
                        have KD := KL.out.trans (hbw.mono KL.out.size)
                        simp only [Act.put, List.setIfInBounds_toArray, List.set_cons_zero, List.set_cons_succ] at hK ⊢
                        unfold opStep
                        rw [if_pos (by rfl)]
                        go_simp
                        exact hK.out _ _ (Below.refl _ _) rfl _ rfl
                      case q1_3 =>
                        intro wq hbw st  K hK
                        have KQ := KW3.out.trans (hbw.mono KW3.out.size)
                        have KD := KL.out.trans (hbw.mono KL.out.size)
                        simp only [Act.put, List.setIfInBounds_toArray, List.set_cons_zero, List.set_cons_succ] at hK ⊢
                        unfold opStep
                        rw [if_pos (by rfl)]
                        have q1 := ((KB.out.on KD).cell q).trans HD.out
                        go_simp
                        exact hK.out _ _ (Below.refl _ _) rfl _ rfl
                      case q1_4 =>
                        intro wq hbw st  K hK
                        have KQ := KW3.out.trans (hbw.mono KW3.out.size)
                        have KD := KL.out.trans (hbw.mono KL.out.size)
                        simp only [Act.put, List.setIfInBounds_toArray, List.set_cons_zero, List.set_cons_succ] at hK ⊢
                        unfold opStep
                        rw [if_pos (by rfl)]
                        go_simp
                        exact hK.out _ _ (Below.refl _ _) rfl _ rfl
                      case q1_5 =>
                        intro wq hbw st  K hK
                        have KQ := KW3.out.trans (hbw.mono KW3.out.size)
                        have KD := KL.out.trans (hbw.mono KL.out.size)
                        simp only [Act.put, List.setIfInBounds_toArray, List.set_cons_zero, List.set_cons_succ] at hK ⊢
                        unfold opStep
                        rw [if_pos (by rfl)]
                        go_simp
                        exact hK.out _ _ (Below.refl _ _) rfl _ rfl
                      case q1_6 =>
                        intro wq hbw st  K hK
                        have KQ := KW3.out.trans (hbw.mono KW3.out.size)
                        have KD := KL.out.trans (hbw.mono KL.out.size)
                        simp only [Act.put, List.setIfInBounds_toArray, List.set_cons_zero, List.set_cons_succ] at hK ⊢
                        unfold opStep
                        rw [if_pos (by rfl)]
                        go_simp
                        exact hK.out _ _ (Below.refl _ _) rfl _ rfl
                      case q1_7 =>
                        intro wq hbw st  K hK
                        have KQ := KW3.out.trans (hbw.mono KW3.out.size)
                        have KD := KL.out.trans (hbw.mono KL.out.size)
                        simp only [Act.put, List.setIfInBounds_toArray, List.set_cons_zero, List.set_cons_succ] at hK ⊢
                        unfold opStep
                        rw [if_pos (by rfl)]
                        go_simp
                        exact hK.out _ _ (Below.refl _ _) rfl _ rfl
                      case q1_8 =>
                        intro wq hbw st  K hK
                        have KQ := KW3.out.trans (hbw.mono KW3.out.size)
                        have KD := KL.out.trans (hbw.mono KL.out.size)
                        simp only [Act.put, List.setIfInBounds_toArray, List.set_cons_zero, List.set_cons_succ] at hK ⊢
                        unfold opStep
                        rw [if_pos (by rfl)]
                        have dd := Lib.hid (HN.out.1 wq KQ)
                        have d0 := dd.out.1
                        have d1 := dd.out.2.1
                        have d2 := dd.out.2.2.1
                        have d3 := dd.out.2.2.2.1
                        have d4 := dd.out.2.2.2.2.1
                        have d5 := dd.out.2.2.2.2.2
                        go_simp
                        exact hK.out _ _ (Below.refl _ _) rfl _ rfl
                      case q1_9 =>
                        intro wq hbw st  K hK
                        have KQ := KW3.out.trans (hbw.mono KW3.out.size)
                        have KD := KL.out.trans (hbw.mono KL.out.size)
                        simp only [Act.put, List.setIfInBounds_toArray, List.set_cons_zero, List.set_cons_succ] at hK ⊢
                        unfold opStep
                        rw [if_pos (by rfl)]
                        go_simp
                        exact hK.out _ _ (Below.refl _ _) rfl _ rfl
                      case q1_10 =>
                        intro wq hbw st  K hK
                        have KQ := KW3.out.trans (hbw.mono KW3.out.size)
                        have KD := KL.out.trans (hbw.mono KL.out.size)
                        simp only [Act.put, List.setIfInBounds_toArray, List.set_cons_zero, List.set_cons_succ] at hK ⊢
                        unfold opStep
                        rw [if_pos (by rfl)]
                        go_simp
                        exact hK.out _ _ (Below.refl _ _) rfl _ rfl
                      case q1_11 =>
                        intro wq hbw st  K hK
                        have KQ := KW3.out.trans (hbw.mono KW3.out.size)
                        have KD := KL.out.trans (hbw.mono KL.out.size)
                        simp only [Act.put, List.setIfInBounds_toArray, List.set_cons_zero, List.set_cons_succ] at hK ⊢
                        unfold opStep
                        rw [if_pos (by rfl)]
                        go_simp
                        exact hK.out _ _ (Below.refl _ _) rfl _ rfl
                      case q1_12 =>
                        intro wq hbw st  K hK
                        have KQ := KW3.out.trans (hbw.mono KW3.out.size)
                        have KD := KL.out.trans (hbw.mono KL.out.size)
                        simp only [Act.put, List.setIfInBounds_toArray, List.set_cons_zero, List.set_cons_succ] at hK ⊢
                        unfold opStep
                        rw [if_pos (by rfl)]
                        have dd := Lib.hid (HN2.out.1 wq KQ)
                        have d0 := dd.out.1
                        have d1 := dd.out.2.1
                        have d2 := dd.out.2.2.1
                        have d3 := dd.out.2.2.2.1
                        have d4 := dd.out.2.2.2.2.1
                        have d5 := dd.out.2.2.2.2.2
                        go_simp
                        exact hK.out _ _ (Below.refl _ _) rfl _ rfl
                      case q1_13 =>
                        intro wq hbw st  K hK
                        have KQ := KW3.out.trans (hbw.mono KW3.out.size)
                        have KD := KL.out.trans (hbw.mono KL.out.size)
                        simp only [Act.put, List.setIfInBounds_toArray, List.set_cons_zero, List.set_cons_succ] at hK ⊢
                        unfold opStep
                        rw [if_pos (by rfl)]
                        go_simp
                        have hpc := prec_any _ _ o y wq ⟨_, _, rfl, HN.out.2.1.keep KQ, HN.out.2.2.keep KQ⟩ ⟨_, _, rfl, HN2.out.2.1.keep KQ, HN2.out.2.2.keep KQ⟩
                        rw [P1.out] at hpc
                        refine hpc.mono ?_
                        rintro e wz ⟨rfl, hbz⟩
                        go_simp
                        exact hK.out _ _ hbz rfl _ rfl
                      case q1_14 =>
                        intro wq hbw st  K hK
                        have KQ := KW3.out.trans (hbw.mono KW3.out.size)
                        have KD := KL.out.trans (hbw.mono KL.out.size)
                        simp only [Act.put, List.setIfInBounds_toArray, List.set_cons_zero, List.set_cons_succ] at hK ⊢
                        unfold opStep
                        rw [if_pos (by rfl)]
                        go_simp
                        exact hK.out _ _ (Below.refl _ _) rfl _ rfl
                      case q1_fin =>
                        intro wq hbw
                        try simp only [FinAll]
                        simp only [Act.put, List.setIfInBounds_toArray, List.set_cons_zero, List.set_cons_succ]
                        replace KL := Lib.hid (KL.out.trans (hbw.mono KL.out.size))
                        replace KW3 := Lib.hid (KW3.out.trans (hbw.mono KW3.out.size))
                        clear hbw
                        go_wp2
                        go_ret
                        exact ⟨ret_bool HE.out.symm, KW3.out⟩
                    · have P1 := Lib.hid (Bool.eq_false_iff.2 p2)
                      have HG : Hid (∀ j, j < q + 1 → prI h x j = true → j ∉ l) := Lib.hid fun j hj hp => by
                        by_cases h5 : j = q
                        · subst h5; rw [HPE.out] at hp; exact absurd hp p2
                        · exact HALL.out j (by omega) hp
                      clear p1 p2
                      go_wp2_with fail
                      refine region_left [.is (.slice (some ⟨w1.heap.size, 0, none⟩) h.length h.length), .is (.int .i64 (q : Int)), .is (.pointer (some ⟨w1.heap.size, q, none⟩)), .is (.bool true), .is (.bool true), .is (.slice (some ⟨b, off, none⟩) h.length cap), .is (.int .i64 (x : Int)), .is (.pointer (some ⟨b, off + x * 6, none⟩)), .is (.agg #[.int .i64 (cliO o), .int .i64 (kindO o), .int .i64 (begO o), .int .i64 (endO o), .slice a4 (addO o).length c4, .slice a5 (seeO o).length c5]), .is (.slice (some ⟨b, off, none⟩) h.length cap), .is (.int .i64 (q : Int)), .is (.pointer (some ⟨b, off + q * 6, none⟩)), .is (.agg #[.int .i64 (cliO y), .int .i64 (kindO y), .int .i64 (begO y), .int .i64 (endO y), .slice d4 (addO y).length k4, .slice d5 (seeO y).length k5]), .is (.bool false), .is (.bool false)] (by kernel_rfl) rfl (by kernel_rfl) (by kernel_rfl) (.cons ?q2_0 (.cons ?q2_1 (.cons ?q2_2 (.cons ?q2_3 (.cons ?q2_4 (.cons ?q2_5 (.cons ?q2_6 (.cons ?q2_7 (.cons ?q2_8 (.cons ?q2_9 (.cons ?q2_10 (.cons ?q2_11 (.cons ?q2_12 (.cons ?q2_13 (.cons ?q2_14 .nil))))))))))))))) ?q2_fin
                      case q2_0 =>
                        intro wq hbw st  K hK
                        have KQ := KW3.out.trans (hbw.mono KW3.out.size)
                        have KD := KL.out.trans (hbw.mono KL.out.size)
                        simp only [Act.put, List.setIfInBounds_toArray, List.set_cons_zero, List.set_cons_succ] at hK ⊢
                        unfold opStep
                        rw [if_pos (by rfl)]
                        go_simp
                        exact hK.out _ _ (Below.refl _ _) rfl _ rfl
                      case q2_1 =>
                        intro wq hbw st  K hK
                        have KQ := KW3.out.trans (hbw.mono KW3.out.size)
                        have KD := KL.out.trans (hbw.mono KL.out.size)
                        simp only [Act.put, List.setIfInBounds_toArray, List.set_cons_zero, List.set_cons_succ] at hK ⊢
                        unfold opStep
                        rw [if_pos (by rfl)]
                        go_simp
                        exact hK.out _ _ (Below.refl _ _) rfl _ rfl
                      case q2_2 =>
                        intro wq hbw st  K hK
                        have KQ := KW3.out.trans (hbw.mono KW3.out.size)
                        have KD := KL.out.trans (hbw.mono KL.out.size)
                        simp only [Act.put, List.setIfInBounds_toArray, List.set_cons_zero, List.set_cons_succ] at hK ⊢
                        unfold opStep
                        rw [if_pos (by rfl)]
                        go_simp
                        exact hK.out _ _ (Below.refl _ _) rfl _ rfl
                      case q2_3 =>
                        intro wq hbw st  K hK
                        have KQ := KW3.out.trans (hbw.mono KW3.out.size)
                        have KD := KL.out.trans (hbw.mono KL.out.size)
                        simp only [Act.put, List.setIfInBounds_toArray, List.set_cons_zero, List.set_cons_succ] at hK ⊢
                        unfold opStep
                        rw [if_pos (by rfl)]
                        have q1 := ((KB.out.on KD).cell q).trans HD.out
                        go_simp
                        exact hK.out _ _ (Below.refl _ _) rfl _ rfl
                      case q2_4 =>
                        intro wq hbw st  K hK
                        have KQ := KW3.out.trans (hbw.mono KW3.out.size)
                        have KD := KL.out.trans (hbw.mono KL.out.size)
                        simp only [Act.put, List.setIfInBounds_toArray, List.set_cons_zero, List.set_cons_succ] at hK ⊢
                        unfold opStep
                        rw [if_pos (by rfl)]
                        go_simp
                        exact hK.out _ _ (Below.refl _ _) rfl _ rfl
                      case q2_5 =>
                        intro wq hbw st  K hK
                        have KQ := KW3.out.trans (hbw.mono KW3.out.size)
                        have KD := KL.out.trans (hbw.mono KL.out.size)
                        simp only [Act.put, List.setIfInBounds_toArray, List.set_cons_zero, List.set_cons_succ] at hK ⊢
                        unfold opStep
                        rw [if_pos (by rfl)]
                        go_simp
                        exact hK.out _ _ (Below.refl _ _) rfl _ rfl
                      case q2_6 =>
                        intro wq hbw st  K hK
                        have KQ := KW3.out.trans (hbw.mono KW3.out.size)
                        have KD := KL.out.trans (hbw.mono KL.out.size)
                        simp only [Act.put, List.setIfInBounds_toArray, List.set_cons_zero, List.set_cons_succ] at hK ⊢
                        unfold opStep
                        rw [if_pos (by rfl)]
                        go_simp
                        exact hK.out _ _ (Below.refl _ _) rfl _ rfl
                      case q2_7 =>
                        intro wq hbw st  K hK
                        have KQ := KW3.out.trans (hbw.mono KW3.out.size)
                        have KD := KL.out.trans (hbw.mono KL.out.size)
                        simp only [Act.put, List.setIfInBounds_toArray, List.set_cons_zero, List.set_cons_succ] at hK ⊢
                        unfold opStep
                        rw [if_pos (by rfl)]
                        go_simp
                        exact hK.out _ _ (Below.refl _ _) rfl _ rfl
                      case q2_8 =>
                        intro wq hbw st  K hK
                        have KQ := KW3.out.trans (hbw.mono KW3.out.size)
                        have KD := KL.out.trans (hbw.mono KL.out.size)
                        simp only [Act.put, List.setIfInBounds_toArray, List.set_cons_zero, List.set_cons_succ] at hK ⊢
                        unfold opStep
                        rw [if_pos (by rfl)]
                        have dd := Lib.hid (HN.out.1 wq KQ)
                        have d0 := dd.out.1
                        have d1 := dd.out.2.1
                        have d2 := dd.out.2.2.1
                        have d3 := dd.out.2.2.2.1
                        have d4 := dd.out.2.2.2.2.1
                        have d5 := dd.out.2.2.2.2.2
                        go_simp
                        exact hK.out _ _ (Below.refl _ _) rfl _ rfl
                      case q2_9 =>
                        intro wq hbw st  K hK
                        have KQ := KW3.out.trans (hbw.mono KW3.out.size)
                        have KD := KL.out.trans (hbw.mono KL.out.size)
                        simp only [Act.put, List.setIfInBounds_toArray, List.set_cons_zero, List.set_cons_succ] at hK ⊢
                        unfold opStep
                        rw [if_pos (by rfl)]
                        go_simp
                        exact hK.out _ _ (Below.refl _ _) rfl _ rfl
                      case q2_10 =>
                        intro wq hbw st  K hK
                        have KQ := KW3.out.trans (hbw.mono KW3.out.size)
                        have KD := KL.out.trans (hbw.mono KL.out.size)
                        simp only [Act.put, List.setIfInBounds_toArray, List.set_cons_zero, List.set_cons_succ] at hK ⊢
                        unfold opStep
                        rw [if_pos (by rfl)]
                        go_simp
                        exact hK.out _ _ (Below.refl _ _) rfl _ rfl
                      case q2_11 =>
                        intro wq hbw st  K hK
                        have KQ := KW3.out.trans (hbw.mono KW3.out.size)
                        have KD := KL.out.trans (hbw.mono KL.out.size)
                        simp only [Act.put, List.setIfInBounds_toArray, List.set_cons_zero, List.set_cons_succ] at hK ⊢
                        unfold opStep
                        rw [if_pos (by rfl)]
                        go_simp
                        exact hK.out _ _ (Below.refl _ _) rfl _ rfl
                      case q2_12 =>
                        intro wq hbw st  K hK
                        have KQ := KW3.out.trans (hbw.mono KW3.out.size)
                        have KD := KL.out.trans (hbw.mono KL.out.size)
                        simp only [Act.put, List.setIfInBounds_toArray, List.set_cons_zero, List.set_cons_succ] at hK ⊢
                        unfold opStep
                        rw [if_pos (by rfl)]
                        have dd := Lib.hid (HN2.out.1 wq KQ)
                        have d0 := dd.out.1
                        have d1 := dd.out.2.1
                        have d2 := dd.out.2.2.1
                        have d3 := dd.out.2.2.2.1
                        have d4 := dd.out.2.2.2.2.1
                        have d5 := dd.out.2.2.2.2.2
                        go_simp
                        exact hK.out _ _ (Below.refl _ _) rfl _ rfl
                      case q2_13 =>
                        intro wq hbw st  K hK
                        have KQ := KW3.out.trans (hbw.mono KW3.out.size)
                        have KD := KL.out.trans (hbw.mono KL.out.size)
                        simp only [Act.put, List.setIfInBounds_toArray, List.set_cons_zero, List.set_cons_succ] at hK ⊢
                        unfold opStep
                        rw [if_pos (by rfl)]
                        go_simp
                        have hpc := prec_any _ _ o y wq ⟨_, _, rfl, HN.out.2.1.keep KQ, HN.out.2.2.keep KQ⟩ ⟨_, _, rfl, HN2.out.2.1.keep KQ, HN2.out.2.2.keep KQ⟩
                        rw [P1.out] at hpc
                        refine hpc.mono ?_
                        rintro e wz ⟨rfl, hbz⟩
                        go_simp
                        exact hK.out _ _ hbz rfl _ rfl
                      case q2_14 =>
                        intro wq hbw st  K hK
                        have KQ := KW3.out.trans (hbw.mono KW3.out.size)
                        have KD := KL.out.trans (hbw.mono KL.out.size)
                        simp only [Act.put, List.setIfInBounds_toArray, List.set_cons_zero, List.set_cons_succ] at hK ⊢
                        unfold opStep
                        rw [if_pos (by rfl)]
                        go_simp
                        exact hK.out _ _ (Below.refl _ _) rfl _ rfl
                      case q2_fin =>
                        intro wq hbw
                        try simp only [FinAll]
                        simp only [Act.put, List.setIfInBounds_toArray, List.set_cons_zero, List.set_cons_succ]
                        replace KL := Lib.hid (KL.out.trans (hbw.mono KL.out.size))
                        replace KW3 := Lib.hid (KW3.out.trans (hbw.mono KW3.out.size))
                        clear hbw
                        go_wp2
                        go_roundg (h.length - (q + 1))
                        case measure => have := HM2.out; omega
                        case rel => exact ⟨q + 1, by omega, by go_num, HG.out, KL.out⟩
                  · have HD : Hid ((uA h.length (intsN l))[q]? = some (.bool false)) := Lib.hid (by rw [HUA.out, decide_eq_false (fun hc => p1 (mem_intsN.1 hc))])
                    have HG : Hid (∀ j, j < q + 1 → prI h x j = true → j ∉ l) := Lib.hid fun j hj hp => by
                      by_cases h5 : j = q
                      · subst h5; exact p1
                      · exact HALL.out j (by omega) hp
                    clear p1
                    go_wp2_with fail
                    refine region_left [.is (.slice (some ⟨w1.heap.size, 0, none⟩) h.length h.length), .is (.int .i64 (q : Int)), .is (.pointer (some ⟨w1.heap.size, q, none⟩)), .is (.bool false), .is (.bool false), .is undef, .is undef, .is undef, .is undef, .is undef, .is undef, .is undef, .is undef, .is undef, .is (.bool false)] (by kernel_rfl) rfl (by kernel_rfl) (by kernel_rfl) (.cons ?q3_0 (.cons ?q3_1 (.cons ?q3_2 (.cons ?q3_3 (.cons ?q3_4 (.cons ?q3_5 (.cons ?q3_6 (.cons ?q3_7 (.cons ?q3_8 (.cons ?q3_9 (.cons ?q3_10 (.cons ?q3_11 (.cons ?q3_12 (.cons ?q3_13 (.cons ?q3_14 .nil))))))))))))))) ?q3_fin
                    case q3_0 =>
                      intro wq hbw st  K hK
                      have KQ := KW3.out.trans (hbw.mono KW3.out.size)
                      have KD := KL.out.trans (hbw.mono KL.out.size)
                      simp only [Act.put, List.setIfInBounds_toArray, List.set_cons_zero, List.set_cons_succ] at hK ⊢
                      unfold opStep
                      rw [if_pos (by rfl)]
                      go_simp
                      exact hK.out _ _ (Below.refl _ _) rfl _ rfl
                    case q3_1 =>
                      intro wq hbw st  K hK
                      have KQ := KW3.out.trans (hbw.mono KW3.out.size)
                      have KD := KL.out.trans (hbw.mono KL.out.size)
                      simp only [Act.put, List.setIfInBounds_toArray, List.set_cons_zero, List.set_cons_succ] at hK ⊢
                      unfold opStep
                      rw [if_pos (by rfl)]
                      go_simp
                      exact hK.out _ _ (Below.refl _ _) rfl _ rfl
                    case q3_2 =>
                      intro wq hbw st  K hK
                      have KQ := KW3.out.trans (hbw.mono KW3.out.size)
                      have KD := KL.out.trans (hbw.mono KL.out.size)
                      simp only [Act.put, List.setIfInBounds_toArray, List.set_cons_zero, List.set_cons_succ] at hK ⊢
                      unfold opStep
                      rw [if_pos (by rfl)]
                      go_simp
                      exact hK.out _ _ (Below.refl _ _) rfl _ rfl
                    case q3_3 =>
                      intro wq hbw st  K hK
                      have KQ := KW3.out.trans (hbw.mono KW3.out.size)
                      have KD := KL.out.trans (hbw.mono KL.out.size)
                      simp only [Act.put, List.setIfInBounds_toArray, List.set_cons_zero, List.set_cons_succ] at hK ⊢
                      unfold opStep
                      rw [if_pos (by rfl)]
                      have q1 := ((KB.out.on KD).cell q).trans HD.out
                      go_simp
                      exact hK.out _ _ (Below.refl _ _) rfl _ rfl
                    case q3_4 =>
                      intro wq hbw st  K hK
                      have KQ := KW3.out.trans (hbw.mono KW3.out.size)
                      have KD := KL.out.trans (hbw.mono KL.out.size)
                      simp only [Act.put, List.setIfInBounds_toArray, List.set_cons_zero, List.set_cons_succ] at hK ⊢
                      unfold opStep
                      rw [if_pos (by rfl)]
                      go_simp
                      exact hK.out _ _ (Below.refl _ _) rfl _ rfl
                    case q3_5 =>
                      intro wq hbw st  K hK
                      have KQ := KW3.out.trans (hbw.mono KW3.out.size)
                      have KD := KL.out.trans (hbw.mono KL.out.size)
                      simp only [Act.put, List.setIfInBounds_toArray, List.set_cons_zero, List.set_cons_succ] at hK ⊢
                      unfold opStep
                      rw [if_neg (by change ¬ (false = true); exact Bool.false_ne_true)]
                      exact hK.out _ _ (Below.refl _ _) rfl _ rfl
                    case q3_6 =>
                      intro wq hbw st  K hK
                      have KQ := KW3.out.trans (hbw.mono KW3.out.size)
                      have KD := KL.out.trans (hbw.mono KL.out.size)
                      simp only [Act.put, List.setIfInBounds_toArray, List.set_cons_zero, List.set_cons_succ] at hK ⊢
                      unfold opStep
                      rw [if_neg (by change ¬ (false = true); exact Bool.false_ne_true)]
                      exact hK.out _ _ (Below.refl _ _) rfl _ rfl
                    case q3_7 =>
                      intro wq hbw st  K hK
                      have KQ := KW3.out.trans (hbw.mono KW3.out.size)
                      have KD := KL.out.trans (hbw.mono KL.out.size)
                      simp only [Act.put, List.setIfInBounds_toArray, List.set_cons_zero, List.set_cons_succ] at hK ⊢
                      unfold opStep
                      rw [if_neg (by change ¬ (false = true); exact Bool.false_ne_true)]
                      exact hK.out _ _ (Below.refl _ _) rfl _ rfl
                    case q3_8 =>
                      intro wq hbw st  K hK
                      have KQ := KW3.out.trans (hbw.mono KW3.out.size)
                      have KD := KL.out.trans (hbw.mono KL.out.size)
                      simp only [Act.put, List.setIfInBounds_toArray, List.set_cons_zero, List.set_cons_succ] at hK ⊢
                      unfold opStep
                      rw [if_neg (by change ¬ (false = true); exact Bool.false_ne_true)]
                      exact hK.out _ _ (Below.refl _ _) rfl _ rfl
                    case q3_9 =>
                      intro wq hbw st  K hK
                      have KQ := KW3.out.trans (hbw.mono KW3.out.size)
                      have KD := KL.out.trans (hbw.mono KL.out.size)
                      simp only [Act.put, List.setIfInBounds_toArray, List.set_cons_zero, List.set_cons_succ] at hK ⊢
                      unfold opStep
                      rw [if_neg (by change ¬ (false = true); exact Bool.false_ne_true)]
                      exact hK.out _ _ (Below.refl _ _) rfl _ rfl
                    case q3_10 =>
                      intro wq hbw st  K hK
                      have KQ := KW3.out.trans (hbw.mono KW3.out.size)
                      have KD := KL.out.trans (hbw.mono KL.out.size)
                      simp only [Act.put, List.setIfInBounds_toArray, List.set_cons_zero, List.set_cons_succ] at hK ⊢
                      unfold opStep
                      rw [if_neg (by change ¬ (false = true); exact Bool.false_ne_true)]
                      exact hK.out _ _ (Below.refl _ _) rfl _ rfl
                    case q3_11 =>
                      intro wq hbw st  K hK
                      have KQ := KW3.out.trans (hbw.mono KW3.out.size)
                      have KD := KL.out.trans (hbw.mono KL.out.size)
                      simp only [Act.put, List.setIfInBounds_toArray, List.set_cons_zero, List.set_cons_succ] at hK ⊢
                      unfold opStep
                      rw [if_neg (by change ¬ (false = true); exact Bool.false_ne_true)]
                      exact hK.out _ _ (Below.refl _ _) rfl _ rfl
                    case q3_12 =>
                      intro wq hbw st  K hK
                      have KQ := KW3.out.trans (hbw.mono KW3.out.size)
                      have KD := KL.out.trans (hbw.mono KL.out.size)
                      simp only [Act.put, List.setIfInBounds_toArray, List.set_cons_zero, List.set_cons_succ] at hK ⊢
                      unfold opStep
                      rw [if_neg (by change ¬ (false = true); exact Bool.false_ne_true)]
                      exact hK.out _ _ (Below.refl _ _) rfl _ rfl
                    case q3_13 =>
                      intro wq hbw st  K hK
                      have KQ := KW3.out.trans (hbw.mono KW3.out.size)
                      have KD := KL.out.trans (hbw.mono KL.out.size)
                      simp only [Act.put, List.setIfInBounds_toArray, List.set_cons_zero, List.set_cons_succ] at hK ⊢
                      unfold opStep
                      rw [if_neg (by change ¬ (false = true); exact Bool.false_ne_true)]
                      exact hK.out _ _ (Below.refl _ _) rfl _ rfl
                    case q3_14 =>
                      intro wq hbw st  K hK
                      have KQ := KW3.out.trans (hbw.mono KW3.out.size)
                      have KD := KL.out.trans (hbw.mono KL.out.size)
                      simp only [Act.put, List.setIfInBounds_toArray, List.set_cons_zero, List.set_cons_succ] at hK ⊢
                      unfold opStep
                      rw [if_pos (by rfl)]
                      go_simp
                      exact hK.out _ _ (Below.refl _ _) rfl _ rfl
                    case q3_fin =>
                      intro wq hbw
                      try simp only [FinAll]
                      simp only [Act.put, List.setIfInBounds_toArray, List.set_cons_zero, List.set_cons_succ]
                      replace KL := Lib.hid (KL.out.trans (hbw.mono KL.out.size))
                      replace KW3 := Lib.hid (KW3.out.trans (hbw.mono KW3.out.size))
                      clear hbw
                      go_wp2
                      go_roundg (h.length - (q + 1))
                      case measure => have := HM2.out; omega
                      case rel => exact ⟨q + 1, by omega, by go_num, HG.out, KL.out⟩
                · have HFREE : Hid (freeB h (maskL l) x = true) := Lib.hid (free_iff.2 fun j hj hp => by
                    rw [maskL_bit]
                    exact decide_eq_false (HALL.out j (by omega) hp))
                  clear HALL
                  replace HWS := Lib.hid (HWS.out.on KL.out)
                  have KB3 := Lib.hid HWS.out.2.1
                  have HU : Hid (∀ w, Blk w w1.heap.size 4 ((uA h.length (intsN l)).setIfInBounds x (.bool true)) → Blk w w1.heap.size 4 (uA h.length (intsN (l ++ [x])))) := Lib.hid (fun w hw => by rw [intsN_snoc, ← uA_set HXN.out.1]; exact hw)
                  have HWB : Hid (∀ w, SetB w (w1.heap.size + 1) S.length S → Blk w w1.heap.size 4 (uA h.length (intsN (l ++ [x]))) → Below w1.heap.size w1 w → WitS h w1 w (l ++ [x]) S) := Lib.hid fun w a b c => ⟨a, b, c⟩
                  have HW4 : Hid (WitS h w1 (wr.setCell ⟨w1.heap.size, x, none⟩ (.bool true)) (l ++ [x]) S) := Lib.hid (HWB.out _ (HWS.out.1.setCell (p := ⟨w1.heap.size, x, none⟩) (by simp) (.bool true)) (HU.out _ (KB3.out.set_ x (.bool true))) (HWS.out.2.2.setCell (p := ⟨w1.heap.size, x, none⟩) (Nat.le_refl _) (.bool true)))
                  have KW4 := Lib.hid (KW3.out.setCell (p := ⟨w1.heap.size, x, none⟩) KW.out.size (.bool true))
                  have HLM2 : Hid (∀ z ∈ l ++ [x], z < h.length) := Lib.hid fun z hz => by
                    rcases List.mem_append.1 hz with h5 | h5
                    · exact HLM.out z h5
                    · rw [List.mem_singleton.1 h5]; exact HXN.out.1
                  have HSN2 := Lib.hid (wit_sees (l := l) HXN.out.1 HSM.out)
                  have HMA : Hid (mayB h (maskL l) x = true ↔ (kindO o = 1 ∨ 0 ≤ endO o ∧ (seeO o).length = (uniq S).length ∧ ∀ s ∈ seeO o, s ∈ S)) := Lib.hid (wit_may HW.out HXN.out.1 HXL.out HFREE.out HSM.out HNX.out)
                  have HADD := Lib.hid (wit_add HW.out HXN.out.1 HNX.out)
                  have HNO2 := Lib.hid (fun (hn : ¬ (kindO o = 1 ∨ 0 ≤ endO o ∧ (seeO o).length = (uniq S).length ∧ ∀ s ∈ seeO o, s ∈ S)) => HAT2.out.trans (if_neg fun hm => hn (HMA.out.1 hm)))
                  have HYES2 := Lib.hid (fun hy => HAT2.out.trans (if_pos (HMA.out.2 hy)))
                  rw [HNX.out] at HSN2
                  have c0 := (KB3.out.cell x).trans (uA_at HXN.out.1)
                  rw [decide_eq_false (fun hc => HXL.out (mem_intsN.1 hc))] at c0
                  have f0 := KB3.out.frozen x
                  have hlt0 := KB3.out.lt
                  have hla := HOL.out.1
                  have hls := HOL.out.2.1
                  have HSTR := Lib.hid HOL.out.2.2
                  generalize hws : wr.setCell ⟨w1.heap.size, x, none⟩ (.bool true) = ws at HW4 KW4
                  have HWE := Lib.hid hws
                  clear hws HU HWB
                  have dd := Lib.hid (HN.out.1 ws KW4.out)
                  have d1 := dd.out.2.1
                  have d4 := dd.out.2.2.2.2.1
                  have d5 := dd.out.2.2.2.2.2
                  rw [← HWE.out] at d1 d4 d5
                  obtain ⟨G3, hG3⟩ : ∃ G, G = gk := ⟨_, rfl⟩
                  subst hG3
                  by_cases hk1 : kindO o = 1
                  · have e1 := beq_iff_eq.2 hk1
                    have HL1 := Lib.hid (HYES2.out (.inl hk1))
                    clear hk1 HYES2 HNO2 HMA HADD
                    generalize addO o = la at *
                    go_wp2
                    rw [HWE.out] at d1 d4 d5 ⊢
                    clear d1 d4 d5 c0 f0
                    go_loopg [84] la.length (fun m i wz => ∃ q : Nat, m + q = la.length ∧ i = .int .i64 q ∧ WitS h w1 wz (l ++ [x]) (S ++ la.take q))
                    case atStart => exact ⟨0, by omega, rfl, by simpa using HW4.out⟩
                    case round =>
                      obtain ⟨q, hmq, rfl, hwz⟩ := hrel
                      have HM3 := Lib.hid hmq
                      replace HW4 := Lib.hid hwz
                      replace KW4 := Lib.hid (KW.out.trans (hwz.2.2.mono KW.out.size))
                      have hq : q ≤ la.length := by omega
                      clear hmq hwz
                      by_cases hql : q < la.length
                      · obtain ⟨bs, os, cs, hv, hbs, hcs⟩ := str_at HN.out.2.1 hql
                        injection hv with e1 e2 e3
                        subst e1
                        have hcs2 := (KW4.out.cell (p := ⟨bs, os + q, none⟩) hbs).trans hcs
                        have hqi : (q : Int) < la.length := by omega
                        have hq0 : (0 : Int) ≤ (q : Int) := by omega
                        have hsl : la[q].length ≤ maxLen := Nat.le_trans (HSTR.out.1 _ (List.getElem_mem hql)) (by unfold maxLen; omega)
                        have HTQ : Hid (S ++ la.take (q + 1) = (S ++ la.take q) ++ [la[q]]) := Lib.hid (by rw [List.take_succ_eq_append_getElem hql, List.append_assoc])
                        have hbig : (S ++ la.take q).length < maxLen := by rw [List.length_append, List.length_take]; unfold maxLen; omega
                        unfold vs at hcs2
                        clear e2 e3 hcs
                        generalize la[q] = s at *
                        generalize S ++ la.take q = S2 at *
                        go_wp2_with (refine wpList_store_set rfl (.tmp 88) (.tmp 89) _ rfl (w1.heap.size + 1) _ S2 s rfl HW4.out.1 hbig rfl hsl rfl ?_)
                        intro w8 hset8 hgr8
                        have H8 : Hid (WitS h w1 w8 (l ++ [x]) (S2 ++ [s])) := Lib.hid ⟨by rw [List.length_append]; exact hset8, (hgr8.block _ HW4.out.2.1.lt (by simp)).trans HW4.out.2.1, below_mapg HW4.out.2.2 hgr8 (by omega)⟩
                        clear hset8 hgr8
                        go_wp2
                        go_roundg (la.length - (q + 1))
                        case measure => have := HM3.out; omega
                        case rel => exact ⟨q + 1, by omega, by go_num, by rw [HTQ.out]; exact H8.out⟩
                      · have hqq : q = la.length := by omega
                        subst hqq
                        have HS3 : Hid (WitS h w1 wr (l ++ [x]) (S ++ la)) := Lib.hid (by have h0 := HW4.out; rwa [List.take_length] at h0)
                        have hSl2 : (S ++ la).length ≤ 1000 * (k + 1) := by rw [List.length_append]; omega
                        go_wp2
                        go_roundg (is.length - (k + 1))
                        case measure => have := HM.out; omega
                        case rel => exact ⟨k + 1, _, _, by omega, by go_num, HL1.out.symm, HLM2.out, hSl2, HSN2.out, HS3.out⟩
                  · have e1 := beq_eq_false_iff_ne.2 hk1
                    have HAE := Lib.hid (HADD.out hk1)
                    have HSS : Hid (∀ s, s ∈ S ↔ s ∈ seesL h (maskL (l ++ [x]))) := Lib.hid (by have h0 := HSN2.out; rwa [HAE.out, List.append_nil] at h0)
                    have HK1 := Lib.hid hk1
                    have hSl2 : S.length ≤ 1000 * (k + 1) := by omega
                    have hul := uniq_le S
                    clear hk1 HADD HSN2
                    by_cases he : endO o < 0
                    · have HE := Lib.hid (HNO2.out fun hc => hc.elim HK1.out fun h5 => by omega)
                      have e3 := decide_eq_true he
                      clear he HYES2 HNO2 HMA
                      go_wp2_with fail
                      rw [HWE.out] at d1 d4 d5 ⊢
                      refine region_left [.is (.slice (some ⟨b, off, none⟩) h.length cap), .is (.int .i64 (x : Int)), .is (.pointer (some ⟨b, off + x * 6, none⟩)), .is (.pointer (some ⟨b, off + x * 6 + 3, none⟩)), .is (.int .i64 (endO o)), .is (.bool true), .is (.bool true), .is undef, .is undef, .is undef, .is undef, .is undef, .is undef, .is undef, .is undef, .is undef, .is (.bool true)] (by kernel_rfl) rfl (by kernel_rfl) (by kernel_rfl) (.cons ?z4_0 (.cons ?z4_1 (.cons ?z4_2 (.cons ?z4_3 (.cons ?z4_4 (.cons ?z4_5 (.cons ?z4_6 (.cons ?z4_7 (.cons ?z4_8 (.cons ?z4_9 (.cons ?z4_10 (.cons ?z4_11 (.cons ?z4_12 (.cons ?z4_13 (.cons ?z4_14 (.cons ?z4_15 (.cons ?z4_16 .nil))))))))))))))))) ?z4_fin
                      case z4_0 =>
                        intro wq hbw st  K hK
                        have KQ := KW4.out.trans (hbw.mono KW4.out.size)
                        simp only [Act.put, List.setIfInBounds_toArray, List.set_cons_zero, List.set_cons_succ] at hK ⊢
                        unfold opStep
                        rw [if_pos (by rfl)]
                        go_simp
                        exact hK.out _ _ (Below.refl _ _) rfl _ rfl
                      case z4_1 =>
                        intro wq hbw st  K hK
                        have KQ := KW4.out.trans (hbw.mono KW4.out.size)
                        simp only [Act.put, List.setIfInBounds_toArray, List.set_cons_zero, List.set_cons_succ] at hK ⊢
                        unfold opStep
                        rw [if_pos (by rfl)]
                        go_simp
                        exact hK.out _ _ (Below.refl _ _) rfl _ rfl
                      case z4_2 =>
                        intro wq hbw st  K hK
                        have KQ := KW4.out.trans (hbw.mono KW4.out.size)
                        simp only [Act.put, List.setIfInBounds_toArray, List.set_cons_zero, List.set_cons_succ] at hK ⊢
                        unfold opStep
                        rw [if_pos (by rfl)]
                        go_simp
                        exact hK.out _ _ (Below.refl _ _) rfl _ rfl
                      case z4_3 =>
                        intro wq hbw st  K hK
                        have KQ := KW4.out.trans (hbw.mono KW4.out.size)
                        simp only [Act.put, List.setIfInBounds_toArray, List.set_cons_zero, List.set_cons_succ] at hK ⊢
                        unfold opStep
                        rw [if_pos (by rfl)]
                        go_simp
                        exact hK.out _ _ (Below.refl _ _) rfl _ rfl
                      case z4_4 =>
                        intro wq hbw st  K hK
                        have KQ := KW4.out.trans (hbw.mono KW4.out.size)
                        simp only [Act.put, List.setIfInBounds_toArray, List.set_cons_zero, List.set_cons_succ] at hK ⊢
                        unfold opStep
                        rw [if_pos (by rfl)]
                        have dd := Lib.hid (HN.out.1 wq KQ)
                        have d0 := dd.out.1
                        have d1 := dd.out.2.1
                        have d2 := dd.out.2.2.1
                        have d3 := dd.out.2.2.2.1
                        have d4 := dd.out.2.2.2.2.1
                        have d5 := dd.out.2.2.2.2.2
                        go_simp
                        exact hK.out _ _ (Below.refl _ _) rfl _ rfl
                      case z4_5 =>
                        intro wq hbw st  K hK
                        have KQ := KW4.out.trans (hbw.mono KW4.out.size)
                        simp only [Act.put, List.setIfInBounds_toArray, List.set_cons_zero, List.set_cons_succ] at hK ⊢
                        unfold opStep
                        rw [if_pos (by rfl)]
                        go_simp
                        exact hK.out _ _ (Below.refl _ _) rfl _ rfl
                      case z4_6 =>
                        intro wq hbw st  K hK
                        have KQ := KW4.out.trans (hbw.mono KW4.out.size)
                        simp only [Act.put, List.setIfInBounds_toArray, List.set_cons_zero, List.set_cons_succ] at hK ⊢
                        unfold opStep
                        rw [if_pos (by rfl)]
                        go_simp
                        exact hK.out _ _ (Below.refl _ _) rfl _ rfl
                      case z4_7 =>
                        intro wq hbw st  K hK
                        have KQ := KW4.out.trans (hbw.mono KW4.out.size)
                        simp only [Act.put, List.setIfInBounds_toArray, List.set_cons_zero, List.set_cons_succ] at hK ⊢
                        unfold opStep
                        rw [if_neg (by change ¬ (false = true); exact Bool.false_ne_true)]
                        exact hK.out _ _ (Below.refl _ _) rfl _ rfl
                      case z4_8 =>
                        intro wq hbw st  K hK
                        have KQ := KW4.out.trans (hbw.mono KW4.out.size)
                        simp only [Act.put, List.setIfInBounds_toArray, List.set_cons_zero, List.set_cons_succ] at hK ⊢
                        unfold opStep
                        rw [if_neg (by change ¬ (false = true); exact Bool.false_ne_true)]
                        exact hK.out _ _ (Below.refl _ _) rfl _ rfl
                      case z4_9 =>
                        intro wq hbw st  K hK
                        have KQ := KW4.out.trans (hbw.mono KW4.out.size)
                        simp only [Act.put, List.setIfInBounds_toArray, List.set_cons_zero, List.set_cons_succ] at hK ⊢
                        unfold opStep
                        rw [if_neg (by change ¬ (false = true); exact Bool.false_ne_true)]
                        exact hK.out _ _ (Below.refl _ _) rfl _ rfl
                      case z4_10 =>
                        intro wq hbw st  K hK
                        have KQ := KW4.out.trans (hbw.mono KW4.out.size)
                        simp only [Act.put, List.setIfInBounds_toArray, List.set_cons_zero, List.set_cons_succ] at hK ⊢
                        unfold opStep
                        rw [if_neg (by change ¬ (false = true); exact Bool.false_ne_true)]
                        exact hK.out _ _ (Below.refl _ _) rfl _ rfl
                      case z4_11 =>
                        intro wq hbw st  K hK
                        have KQ := KW4.out.trans (hbw.mono KW4.out.size)
                        simp only [Act.put, List.setIfInBounds_toArray, List.set_cons_zero, List.set_cons_succ] at hK ⊢
                        unfold opStep
                        rw [if_neg (by change ¬ (false = true); exact Bool.false_ne_true)]
                        exact hK.out _ _ (Below.refl _ _) rfl _ rfl
                      case z4_12 =>
                        intro wq hbw st  K hK
                        have KQ := KW4.out.trans (hbw.mono KW4.out.size)
                        simp only [Act.put, List.setIfInBounds_toArray, List.set_cons_zero, List.set_cons_succ] at hK ⊢
                        unfold opStep
                        rw [if_neg (by change ¬ (false = true); exact Bool.false_ne_true)]
                        exact hK.out _ _ (Below.refl _ _) rfl _ rfl
                      case z4_13 =>
                        intro wq hbw st  K hK
                        have KQ := KW4.out.trans (hbw.mono KW4.out.size)
                        simp only [Act.put, List.setIfInBounds_toArray, List.set_cons_zero, List.set_cons_succ] at hK ⊢
                        unfold opStep
                        rw [if_neg (by change ¬ (false = true); exact Bool.false_ne_true)]
                        exact hK.out _ _ (Below.refl _ _) rfl _ rfl
                      case z4_14 =>
                        intro wq hbw st  K hK
                        have KQ := KW4.out.trans (hbw.mono KW4.out.size)
                        simp only [Act.put, List.setIfInBounds_toArray, List.set_cons_zero, List.set_cons_succ] at hK ⊢
                        unfold opStep
                        rw [if_neg (by change ¬ (false = true); exact Bool.false_ne_true)]
                        exact hK.out _ _ (Below.refl _ _) rfl _ rfl
                      case z4_15 =>
                        intro wq hbw st  K hK
                        have KQ := KW4.out.trans (hbw.mono KW4.out.size)
                        simp only [Act.put, List.setIfInBounds_toArray, List.set_cons_zero, List.set_cons_succ] at hK ⊢
                        unfold opStep
                        rw [if_neg (by change ¬ (false = true); exact Bool.false_ne_true)]
                        exact hK.out _ _ (Below.refl _ _) rfl _ rfl
                      case z4_16 =>
                        intro wq hbw st  K hK
                        have KQ := KW4.out.trans (hbw.mono KW4.out.size)
                        simp only [Act.put, List.setIfInBounds_toArray, List.set_cons_zero, List.set_cons_succ] at hK ⊢
                        unfold opStep
                        rw [if_pos (by rfl)]
                        go_simp
                        exact hK.out _ _ (Below.refl _ _) rfl _ rfl
                      case z4_fin =>
                        intro wq hbw
                        try simp only [FinAll]
                        simp only [Act.put, List.setIfInBounds_toArray, List.set_cons_zero, List.set_cons_succ]
                        replace KW4 := Lib.hid (KW4.out.trans (hbw.mono KW4.out.size))
                        replace HW4 := Lib.hid (HW4.out.on hbw)
                        clear hbw
                        clear d1 d4 d5 c0 f0
                        go_wp2
                        go_ret
                        exact ⟨ret_bool HE.out.symm, KW4.out⟩
                    · have e3 := decide_eq_false he
                      by_cases hlen : (seeO o).length = (uniq S).length
                      · have e4 : (((seeO o).length : Int) != ((uniq S).length : Int)) = false := bne_f (by omega)
                        have HALLIN := Lib.hid (fun hc => HYES2.out (.inr ⟨by omega, hlen, hc⟩))
                        have HNOIN := Lib.hid (fun (s : Str) (hs : s ∈ seeO o) (hn : s ∉ S) => HNO2.out fun hc => hc.elim HK1.out fun h5 => hn (h5.2.2 s hs))
                        clear he hlen HYES2 HNO2 HMA
                        generalize seeO o = ls at *
                        go_wp2_with fail
                        rw [HWE.out] at d1 d4 d5 ⊢
                        refine region_left [.is (.slice (some ⟨b, off, none⟩) h.length cap), .is (.int .i64 (x : Int)), .is (.pointer (some ⟨b, off + x * 6, none⟩)), .is (.pointer (some ⟨b, off + x * 6 + 3, none⟩)), .is (.int .i64 (endO o)), .is (.bool false), .is (.bool false), .is (.slice (some ⟨b, off, none⟩) h.length cap), .is (.int .i64 (x : Int)), .is (.pointer (some ⟨b, off + x * 6, none⟩)), .is (.pointer (some ⟨b, off + x * 6 + 5, none⟩)), .is (.slice a5 ls.length c5), .is (.int .i64 (ls.length : Nat)), .is (.map (some (w1.heap.size + 1))), .is (.int .i64 ((uniq S).length : Nat)), .is (.bool false), .is (.bool false)] (by kernel_rfl) rfl (by kernel_rfl) (by kernel_rfl) (.cons ?z5_0 (.cons ?z5_1 (.cons ?z5_2 (.cons ?z5_3 (.cons ?z5_4 (.cons ?z5_5 (.cons ?z5_6 (.cons ?z5_7 (.cons ?z5_8 (.cons ?z5_9 (.cons ?z5_10 (.cons ?z5_11 (.cons ?z5_12 (.cons ?z5_13 (.cons ?z5_14 (.cons ?z5_15 (.cons ?z5_16 .nil))))))))))))))))) ?z5_fin
                        case z5_0 =>
                          intro wq hbw st  K hK
                          have KQ := KW4.out.trans (hbw.mono KW4.out.size)
                          simp only [Act.put, List.setIfInBounds_toArray, List.set_cons_zero, List.set_cons_succ] at hK ⊢
                          unfold opStep
                          rw [if_pos (by rfl)]
                          go_simp
                          exact hK.out _ _ (Below.refl _ _) rfl _ rfl
                        case z5_1 =>
                          intro wq hbw st  K hK
                          have KQ := KW4.out.trans (hbw.mono KW4.out.size)
                          simp only [Act.put, List.setIfInBounds_toArray, List.set_cons_zero, List.set_cons_succ] at hK ⊢
                          unfold opStep
                          rw [if_pos (by rfl)]
                          go_simp
                          exact hK.out _ _ (Below.refl _ _) rfl _ rfl
                        case z5_2 =>
                          intro wq hbw st  K hK
                          have KQ := KW4.out.trans (hbw.mono KW4.out.size)
                          simp only [Act.put, List.setIfInBounds_toArray, List.set_cons_zero, List.set_cons_succ] at hK ⊢
                          unfold opStep
                          rw [if_pos (by rfl)]
                          go_simp
                          exact hK.out _ _ (Below.refl _ _) rfl _ rfl
                        case z5_3 =>
                          intro wq hbw st  K hK
                          have KQ := KW4.out.trans (hbw.mono KW4.out.size)
                          simp only [Act.put, List.setIfInBounds_toArray, List.set_cons_zero, List.set_cons_succ] at hK ⊢
                          unfold opStep
                          rw [if_pos (by rfl)]
                          go_simp
                          exact hK.out _ _ (Below.refl _ _) rfl _ rfl
                        case z5_4 =>
                          intro wq hbw st  K hK
                          have KQ := KW4.out.trans (hbw.mono KW4.out.size)
                          simp only [Act.put, List.setIfInBounds_toArray, List.set_cons_zero, List.set_cons_succ] at hK ⊢
                          unfold opStep
                          rw [if_pos (by rfl)]
                          have dd := Lib.hid (HN.out.1 wq KQ)
                          have d0 := dd.out.1
                          have d1 := dd.out.2.1
                          have d2 := dd.out.2.2.1
                          have d3 := dd.out.2.2.2.1
                          have d4 := dd.out.2.2.2.2.1
                          have d5 := dd.out.2.2.2.2.2
                          go_simp
                          exact hK.out _ _ (Below.refl _ _) rfl _ rfl
                        case z5_5 =>
                          intro wq hbw st  K hK
                          have KQ := KW4.out.trans (hbw.mono KW4.out.size)
                          simp only [Act.put, List.setIfInBounds_toArray, List.set_cons_zero, List.set_cons_succ] at hK ⊢
                          unfold opStep
                          rw [if_pos (by rfl)]
                          go_simp
                          exact hK.out _ _ (Below.refl _ _) rfl _ rfl
                        case z5_6 =>
                          intro wq hbw st  K hK
                          have KQ := KW4.out.trans (hbw.mono KW4.out.size)
                          simp only [Act.put, List.setIfInBounds_toArray, List.set_cons_zero, List.set_cons_succ] at hK ⊢
                          unfold opStep
                          rw [if_pos (by rfl)]
                          go_simp
                          exact hK.out _ _ (Below.refl _ _) rfl _ rfl
                        case z5_7 =>
                          intro wq hbw st  K hK
                          have KQ := KW4.out.trans (hbw.mono KW4.out.size)
                          simp only [Act.put, List.setIfInBounds_toArray, List.set_cons_zero, List.set_cons_succ] at hK ⊢
                          unfold opStep
                          rw [if_pos (by rfl)]
                          go_simp
                          exact hK.out _ _ (Below.refl _ _) rfl _ rfl
                        case z5_8 =>
                          intro wq hbw st  K hK
                          have KQ := KW4.out.trans (hbw.mono KW4.out.size)
                          simp only [Act.put, List.setIfInBounds_toArray, List.set_cons_zero, List.set_cons_succ] at hK ⊢
                          unfold opStep
                          rw [if_pos (by rfl)]
                          go_simp
                          exact hK.out _ _ (Below.refl _ _) rfl _ rfl
                        case z5_9 =>
                          intro wq hbw st  K hK
                          have KQ := KW4.out.trans (hbw.mono KW4.out.size)
                          simp only [Act.put, List.setIfInBounds_toArray, List.set_cons_zero, List.set_cons_succ] at hK ⊢
                          unfold opStep
                          rw [if_pos (by rfl)]
                          go_simp
                          exact hK.out _ _ (Below.refl _ _) rfl _ rfl
                        case z5_10 =>
                          intro wq hbw st  K hK
                          have KQ := KW4.out.trans (hbw.mono KW4.out.size)
                          simp only [Act.put, List.setIfInBounds_toArray, List.set_cons_zero, List.set_cons_succ] at hK ⊢
                          unfold opStep
                          rw [if_pos (by rfl)]
                          go_simp
                          exact hK.out _ _ (Below.refl _ _) rfl _ rfl
                        case z5_11 =>
                          intro wq hbw st  K hK
                          have KQ := KW4.out.trans (hbw.mono KW4.out.size)
                          simp only [Act.put, List.setIfInBounds_toArray, List.set_cons_zero, List.set_cons_succ] at hK ⊢
                          unfold opStep
                          rw [if_pos (by rfl)]
                          have dd := Lib.hid (HN.out.1 wq KQ)
                          have d0 := dd.out.1
                          have d1 := dd.out.2.1
                          have d2 := dd.out.2.2.1
                          have d3 := dd.out.2.2.2.1
                          have d4 := dd.out.2.2.2.2.1
                          have d5 := dd.out.2.2.2.2.2
                          go_simp
                          exact hK.out _ _ (Below.refl _ _) rfl _ rfl
                        case z5_12 =>
                          intro wq hbw st  K hK
                          have KQ := KW4.out.trans (hbw.mono KW4.out.size)
                          simp only [Act.put, List.setIfInBounds_toArray, List.set_cons_zero, List.set_cons_succ] at hK ⊢
                          unfold opStep
                          rw [if_pos (by rfl)]
                          go_simp
                          exact hK.out _ _ (Below.refl _ _) rfl _ rfl
                        case z5_13 =>
                          intro wq hbw st  K hK
                          have KQ := KW4.out.trans (hbw.mono KW4.out.size)
                          simp only [Act.put, List.setIfInBounds_toArray, List.set_cons_zero, List.set_cons_succ] at hK ⊢
                          unfold opStep
                          rw [if_pos (by rfl)]
                          go_simp
                          exact hK.out _ _ (Below.refl _ _) rfl _ rfl
                        case z5_14 =>
                          intro wq hbw st  K hK
                          have KQ := KW4.out.trans (hbw.mono KW4.out.size)
                          simp only [Act.put, List.setIfInBounds_toArray, List.set_cons_zero, List.set_cons_succ] at hK ⊢
                          unfold opStep
                          rw [if_pos (by rfl)]
                          obtain ⟨D, hown, _, _, hsz⟩ := HW4.out.1.on hbw
                          have hrun := hown.len Try.underlying67 3
                          rw [hsz] at hrun
                          go_simp
                          exact hK.out _ _ (Below.refl _ _) rfl _ rfl
                        case z5_15 =>
                          intro wq hbw st  K hK
                          have KQ := KW4.out.trans (hbw.mono KW4.out.size)
                          simp only [Act.put, List.setIfInBounds_toArray, List.set_cons_zero, List.set_cons_succ] at hK ⊢
                          unfold opStep
                          rw [if_pos (by rfl)]
                          go_simp
                          exact hK.out _ _ (Below.refl _ _) rfl _ rfl
                        case z5_16 =>
                          intro wq hbw st  K hK
                          have KQ := KW4.out.trans (hbw.mono KW4.out.size)
                          simp only [Act.put, List.setIfInBounds_toArray, List.set_cons_zero, List.set_cons_succ] at hK ⊢
                          unfold opStep
                          rw [if_pos (by rfl)]
                          go_simp
                          exact hK.out _ _ (Below.refl _ _) rfl _ rfl
                        case z5_fin =>
                          intro wq hbw
                          try simp only [FinAll]
                          simp only [Act.put, List.setIfInBounds_toArray, List.set_cons_zero, List.set_cons_succ]
                          replace KW4 := Lib.hid (KW4.out.trans (hbw.mono KW4.out.size))
                          replace HW4 := Lib.hid (HW4.out.on hbw)
                          clear hbw
                          clear d1 d4 d5 c0 f0
                          have dd := Lib.hid (HN.out.1 wq KW4.out)
                          have d5 := dd.out.2.2.2.2.2
                          go_wp2
                          go_loop [114] (fun i => ∃ q : Nat, q ≤ ls.length ∧ i = .int .i64 q ∧ ∀ s ∈ ls.take q, s ∈ S) (fun i => ls.length - (intOf i).toNat)
                          case atStart => exact ⟨0, by omega, rfl, by simp⟩
                          case round =>
                            obtain ⟨q, hq, rfl, hall⟩ := hrel
                            have HALL2 := Lib.hid hall
                            clear hall
                            by_cases hql : q < ls.length
                            · obtain ⟨b0, off0, c9, hv, hb0, hc⟩ := str_at HN.out.2.2 hql
                              injection hv with f1 f2 f3
                              subst f1
                              have hqi : (q : Int) < ls.length := by omega
                              have hq0 : (0 : Int) ≤ (q : Int) := by omega
                              have hc2 := (KW4.out.cell (p := ⟨b0, off0 + q, none⟩) hb0).trans hc
                              have hsl : ls[q].length ≤ maxLen := Nat.le_trans (HSTR.out.2 _ (List.getElem_mem hql)) (by unfold maxLen; omega)
                              have HSQ : Hid (ls[q] ∈ S → ∀ s ∈ ls.take (q + 1), s ∈ S) := Lib.hid fun h1 s hs => by
                                rw [List.take_succ_eq_append_getElem hql] at hs
                                rcases List.mem_append.1 hs with h2 | h2
                                · exact HALL2.out s h2
                                · rw [List.mem_singleton.1 h2]; exact h1
                              have HNQ := Lib.hid (HNOIN.out _ (List.getElem_mem hql))
                              unfold vs at hc2
                              clear f2 f3 hc
                              generalize ls[q] = s at *
                              by_cases hin : s ∈ S
                              · have HIN := Lib.hid (decide_eq_true hin)
                                have HIN2 := Lib.hid (HSQ.out hin)
                                clear hin
                                go_wp2_with (refine wpList_lookup_set rfl (.tmp 118) (.tmp 119) rfl (w1.heap.size + 1) S.length S s rfl HW4.out.1 rfl hsl HIN.out ?_)
                                go_round
                                case rel => exact ⟨q + 1, by omega, by go_num, HIN2.out⟩
                                case measure => simp [intOf]; omega
                              · have HIN := Lib.hid (decide_eq_false hin)
                                have HE := Lib.hid (HNQ.out hin)
                                clear hin
                                go_wp2_with (refine wpList_lookup_set rfl (.tmp 118) (.tmp 119) rfl (w1.heap.size + 1) S.length S s rfl HW4.out.1 rfl hsl HIN.out ?_)
                                go_ret
                                exact ⟨ret_bool HE.out.symm, KW4.out⟩
                            · have HL1 := Lib.hid (HALLIN.out (by have h5 := HALL2.out; rwa [List.take_of_length_le (by omega)] at h5))
                              go_wp2
                              go_roundg (is.length - (k + 1))
                              case measure => have := HM.out; omega
                              case rel => exact ⟨k + 1, _, _, by omega, by go_num, HL1.out.symm, HLM2.out, hSl2, HSS.out, HW4.out⟩
                      · have e4 : (((seeO o).length : Int) != ((uniq S).length : Int)) = true := bne_t (by omega)
                        have HE := Lib.hid (HNO2.out fun hc => hc.elim HK1.out fun h5 => hlen h5.2.1)
                        clear he hlen HYES2 HNO2 HMA
                        go_wp2_with fail
                        rw [HWE.out] at d1 d4 d5 ⊢
                        refine region_left [.is (.slice (some ⟨b, off, none⟩) h.length cap), .is (.int .i64 (x : Int)), .is (.pointer (some ⟨b, off + x * 6, none⟩)), .is (.pointer (some ⟨b, off + x * 6 + 3, none⟩)), .is (.int .i64 (endO o)), .is (.bool false), .is (.bool false), .is (.slice (some ⟨b, off, none⟩) h.length cap), .is (.int .i64 (x : Int)), .is (.pointer (some ⟨b, off + x * 6, none⟩)), .is (.pointer (some ⟨b, off + x * 6 + 5, none⟩)), .is (.slice a5 (seeO o).length c5), .is (.int .i64 ((seeO o).length : Nat)), .is (.map (some (w1.heap.size + 1))), .is (.int .i64 ((uniq S).length : Nat)), .is (.bool true), .is (.bool true)] (by kernel_rfl) rfl (by kernel_rfl) (by kernel_rfl) (.cons ?z6_0 (.cons ?z6_1 (.cons ?z6_2 (.cons ?z6_3 (.cons ?z6_4 (.cons ?z6_5 (.cons ?z6_6 (.cons ?z6_7 (.cons ?z6_8 (.cons ?z6_9 (.cons ?z6_10 (.cons ?z6_11 (.cons ?z6_12 (.cons ?z6_13 (.cons ?z6_14 (.cons ?z6_15 (.cons ?z6_16 .nil))))))))))))))))) ?z6_fin
                        case z6_0 =>
                          intro wq hbw st  K hK
                          have KQ := KW4.out.trans (hbw.mono KW4.out.size)
                          simp only [Act.put, List.setIfInBounds_toArray, List.set_cons_zero, List.set_cons_succ] at hK ⊢
                          unfold opStep
                          rw [if_pos (by rfl)]
                          go_simp
                          exact hK.out _ _ (Below.refl _ _) rfl _ rfl
                        case z6_1 =>
                          intro wq hbw st  K hK
                          have KQ := KW4.out.trans (hbw.mono KW4.out.size)
                          simp only [Act.put, List.setIfInBounds_toArray, List.set_cons_zero, List.set_cons_succ] at hK ⊢
                          unfold opStep
                          rw [if_pos (by rfl)]
                          go_simp
                          exact hK.out _ _ (Below.refl _ _) rfl _ rfl
                        case z6_2 =>
                          intro wq hbw st  K hK
                          have KQ := KW4.out.trans (hbw.mono KW4.out.size)
                          simp only [Act.put, List.setIfInBounds_toArray, List.set_cons_zero, List.set_cons_succ] at hK ⊢
                          unfold opStep
                          rw [if_pos (by rfl)]
                          go_simp
                          exact hK.out _ _ (Below.refl _ _) rfl _ rfl
                        case z6_3 =>
                          intro wq hbw st  K hK
                          have KQ := KW4.out.trans (hbw.mono KW4.out.size)
                          simp only [Act.put, List.setIfInBounds_toArray, List.set_cons_zero, List.set_cons_succ] at hK ⊢
                          unfold opStep
                          rw [if_pos (by rfl)]
                          go_simp
                          exact hK.out _ _ (Below.refl _ _) rfl _ rfl
                        case z6_4 =>
                          intro wq hbw st  K hK
                          have KQ := KW4.out.trans (hbw.mono KW4.out.size)
                          simp only [Act.put, List.setIfInBounds_toArray, List.set_cons_zero, List.set_cons_succ] at hK ⊢
                          unfold opStep
                          rw [if_pos (by rfl)]
                          have dd := Lib.hid (HN.out.1 wq KQ)
                          have d0 := dd.out.1
                          have d1 := dd.out.2.1
                          have d2 := dd.out.2.2.1
                          have d3 := dd.out.2.2.2.1
                          have d4 := dd.out.2.2.2.2.1
                          have d5 := dd.out.2.2.2.2.2
                          go_simp
                          exact hK.out _ _ (Below.refl _ _) rfl _ rfl
                        case z6_5 =>
                          intro wq hbw st  K hK
                          have KQ := KW4.out.trans (hbw.mono KW4.out.size)
                          simp only [Act.put, List.setIfInBounds_toArray, List.set_cons_zero, List.set_cons_succ] at hK ⊢
                          unfold opStep
                          rw [if_pos (by rfl)]
                          go_simp
                          exact hK.out _ _ (Below.refl _ _) rfl _ rfl
                        case z6_6 =>
                          intro wq hbw st  K hK
                          have KQ := KW4.out.trans (hbw.mono KW4.out.size)
                          simp only [Act.put, List.setIfInBounds_toArray, List.set_cons_zero, List.set_cons_succ] at hK ⊢
                          unfold opStep
                          rw [if_pos (by rfl)]
                          go_simp
                          exact hK.out _ _ (Below.refl _ _) rfl _ rfl
                        case z6_7 =>
                          intro wq hbw st  K hK
                          have KQ := KW4.out.trans (hbw.mono KW4.out.size)
                          simp only [Act.put, List.setIfInBounds_toArray, List.set_cons_zero, List.set_cons_succ] at hK ⊢
                          unfold opStep
                          rw [if_pos (by rfl)]
                          go_simp
                          exact hK.out _ _ (Below.refl _ _) rfl _ rfl
                        case z6_8 =>
                          intro wq hbw st  K hK
                          have KQ := KW4.out.trans (hbw.mono KW4.out.size)
                          simp only [Act.put, List.setIfInBounds_toArray, List.set_cons_zero, List.set_cons_succ] at hK ⊢
                          unfold opStep
                          rw [if_pos (by rfl)]
                          go_simp
                          exact hK.out _ _ (Below.refl _ _) rfl _ rfl
                        case z6_9 =>
                          intro wq hbw st  K hK
                          have KQ := KW4.out.trans (hbw.mono KW4.out.size)
                          simp only [Act.put, List.setIfInBounds_toArray, List.set_cons_zero, List.set_cons_succ] at hK ⊢
                          unfold opStep
                          rw [if_pos (by rfl)]
                          go_simp
                          exact hK.out _ _ (Below.refl _ _) rfl _ rfl
                        case z6_10 =>
                          intro wq hbw st  K hK
                          have KQ := KW4.out.trans (hbw.mono KW4.out.size)
                          simp only [Act.put, List.setIfInBounds_toArray, List.set_cons_zero, List.set_cons_succ] at hK ⊢
                          unfold opStep
                          rw [if_pos (by rfl)]
                          go_simp
                          exact hK.out _ _ (Below.refl _ _) rfl _ rfl
                        case z6_11 =>
                          intro wq hbw st  K hK
                          have KQ := KW4.out.trans (hbw.mono KW4.out.size)
                          simp only [Act.put, List.setIfInBounds_toArray, List.set_cons_zero, List.set_cons_succ] at hK ⊢
                          unfold opStep
                          rw [if_pos (by rfl)]
                          have dd := Lib.hid (HN.out.1 wq KQ)
                          have d0 := dd.out.1
                          have d1 := dd.out.2.1
                          have d2 := dd.out.2.2.1
                          have d3 := dd.out.2.2.2.1
                          have d4 := dd.out.2.2.2.2.1
                          have d5 := dd.out.2.2.2.2.2
                          go_simp
                          exact hK.out _ _ (Below.refl _ _) rfl _ rfl
                        case z6_12 =>
                          intro wq hbw st  K hK
                          have KQ := KW4.out.trans (hbw.mono KW4.out.size)
                          simp only [Act.put, List.setIfInBounds_toArray, List.set_cons_zero, List.set_cons_succ] at hK ⊢
                          unfold opStep
                          rw [if_pos (by rfl)]
                          go_simp
                          exact hK.out _ _ (Below.refl _ _) rfl _ rfl
                        case z6_13 =>
                          intro wq hbw st  K hK
                          have KQ := KW4.out.trans (hbw.mono KW4.out.size)
                          simp only [Act.put, List.setIfInBounds_toArray, List.set_cons_zero, List.set_cons_succ] at hK ⊢
                          unfold opStep
                          rw [if_pos (by rfl)]
                          go_simp
                          exact hK.out _ _ (Below.refl _ _) rfl _ rfl
                        case z6_14 =>
                          intro wq hbw st  K hK
                          have KQ := KW4.out.trans (hbw.mono KW4.out.size)
                          simp only [Act.put, List.setIfInBounds_toArray, List.set_cons_zero, List.set_cons_succ] at hK ⊢
                          unfold opStep
                          rw [if_pos (by rfl)]
                          obtain ⟨D, hown, _, _, hsz⟩ := HW4.out.1.on hbw
                          have hrun := hown.len Try.underlying67 3
                          rw [hsz] at hrun
                          go_simp
                          exact hK.out _ _ (Below.refl _ _) rfl _ rfl
                        case z6_15 =>
                          intro wq hbw st  K hK
                          have KQ := KW4.out.trans (hbw.mono KW4.out.size)
                          simp only [Act.put, List.setIfInBounds_toArray, List.set_cons_zero, List.set_cons_succ] at hK ⊢
                          unfold opStep
                          rw [if_pos (by rfl)]
                          go_simp
                          exact hK.out _ _ (Below.refl _ _) rfl _ rfl
                        case z6_16 =>
                          intro wq hbw st  K hK
                          have KQ := KW4.out.trans (hbw.mono KW4.out.size)
                          simp only [Act.put, List.setIfInBounds_toArray, List.set_cons_zero, List.set_cons_succ] at hK ⊢
                          unfold opStep
                          rw [if_pos (by rfl)]
                          go_simp
                          exact hK.out _ _ (Below.refl _ _) rfl _ rfl
                        case z6_fin =>
                          intro wq hbw
                          try simp only [FinAll]
                          simp only [Act.put, List.setIfInBounds_toArray, List.set_cons_zero, List.set_cons_succ]
                          replace KW4 := Lib.hid (KW4.out.trans (hbw.mono KW4.out.size))
                          replace HW4 := Lib.hid (HW4.out.on hbw)
                          clear hbw
                          clear d1 d4 d5 c0 f0
                          go_wp2
                          go_ret
                          exact ⟨ret_bool HE.out.symm, KW4.out⟩
      · have HE : Hid (compB h l = res) := Lib.hid (by have h4 := HWL.out; rw [List.drop_eq_nil_of_le (by omega)] at h4; exact h4)
        have HNO : Hid (∀ j, j < h.length → 0 ≤ endO (nth h j) → j ∉ l → res = false) := Lib.hid fun j hj he hjl => HE.out.symm.trans (Bool.eq_false_iff.2 fun hc => hjl (comp_iff.1 hc j hj (by omega)))
        have HYES : Hid ((∀ j, j < h.length → 0 ≤ endO (nth h j) → j ∈ l) → res = true) := Lib.hid fun hc => HE.out.symm.trans (comp_iff.2 fun j hj he => hc j hj (by
          have h2 := form_of (HW.out.1 _ (nth_mem hj))
          omega))
        clear HWL HE
        go_wp2
        obtain ⟨G2, hG2⟩ : ∃ G, G = gk := ⟨_, rfl⟩
        subst hG2
        go_loop [126] (fun i => ∃ q : Nat, q ≤ h.length ∧ i = .int .i64 q ∧ ∀ j, j < q → 0 ≤ endO (nth h j) → j ∈ l) (fun i => h.length - (intOf i).toNat)
        case atStart => exact ⟨0, by omega, rfl, fun j h => by omega⟩
        case round =>
          obtain ⟨q, hq, rfl, hall⟩ := hrel
          have HALL := Lib.hid hall
          clear hall
          by_cases hql : q < h.length
          · obtain ⟨b, off, cap1, a4, c4, a5, c5, hv, _, _, hm4, hm5, hl4, hl5, hcell, r1, r2⟩ := HR.out.at2 hql
            injection hv with e1 e2 e3
            subst e1
            have hqi : (q : Int) < h.length := by omega
            have hq0 : (0 : Int) ≤ (q : Int) := by omega
            have dd := Lib.hid (hcell wr KW2.out)
            have d3 := dd.out.2.2.2.1
            have c0 := (KB.out.cell q).trans (uA_at hql)
            have HNQ := Lib.hid (HNO.out q hql)
            have HNX : Hid (nth h q = h[q]) := Lib.hid (nth_eq hql)
            rw [HNX.out] at HNQ
            have HGQ : Hid ((0 ≤ endO h[q] → q ∈ l) → ∀ j, j < q + 1 → 0 ≤ endO (nth h j) → j ∈ l) := Lib.hid fun h1 j hj he => by
              by_cases h2 : j = q
              · subst h2; rw [HNX.out] at he; exact h1 he
              · exact HALL.out j (by omega) he
            clear e2 e3 hcell r1 r2 dd HNX
            generalize h[q] = y at *
            clear hql
            by_cases he : 0 ≤ endO y
            · by_cases hm : q ∈ l
              · have HG := Lib.hid (HGQ.out fun _ => hm)
                rw [decide_eq_true (mem_intsN.2 hm)] at c0
                clear hm
                go_wp2
                go_round
                case rel => exact ⟨q + 1, by omega, by go_num, HG.out⟩
                case measure => simp [intOf]; omega
              · have HE := Lib.hid (HNQ.out he hm)
                rw [decide_eq_false (fun hc => hm (mem_intsN.1 hc))] at c0
                clear hm
                go_wp2
                go_ret
                exact ⟨ret_bool HE.out.symm, KW2.out⟩
            · have HG := Lib.hid (HGQ.out fun h1 => absurd h1 he)
              go_wp2
              go_round
              case rel => exact ⟨q + 1, by omega, by go_num, HG.out⟩
              case measure => simp [intOf]; omega
          · have HE := Lib.hid (HYES.out fun j hj => HALL.out j (by omega))
            go_wp2
            go_ret
            exact ⟨ret_bool HE.out.symm, KW2.out⟩
  · have HE := Lib.hid (HBAD.out h0)
    have e0 := bne_t h0
    clear h0 HGOOD HBAD HMK
    go_wp2
    go_ret
    exact ⟨ret_bool HE.out.symm, KW.out⟩
end Go.Proofs.Ytgaolgfjbgflgaa
