/-
  HistoryRespects: for all histories and orders the law returns true, and what came in reads behind the call as before. No condition.
-/
import Derived.Test.YtnpfalloelmflaaRr
import Derived.Test.YtnpfalloelmflaaSw
import Derived.Test.YtnpfalloelmflaaPn
import Derived.Test.YtnpfalloelmflaaAp
import Derived.Test.YtnpfalloelmflaaRa
import Derived.Test.YtnpfalloelmflaaHs
import Derived.Test.YtnpfalloelmflaaHz
import Derived.Test.YtnpfalloelmflaaHq
import Derived.Deep.DeepCutAuto
namespace Go.Proofs.Ytnpfalloelmflaa.historyRespects
open Go.ChangeShapes Go.WideShapes Go.ChangeAt Go.RowKit

theorem one_reads (w : World) (x : Int) : Reads vi (w.alloc (.cells #[.int .i64 x] 3)) (.slice (some ⟨w.heap.size, 0, none⟩) 1 1) [x] :=
  Reads.at (xs := [x]) (Nat.le_refl 1) (by unfold maxLen; omega) (by simp) fun j hj => by
    have h0 : j = 0 := by simpa using hj
    subst h0
    exact (Blk.new w 3 #[.int .i64 x]).cell 0
theorem perm_snoc {l : List Int} {k : Nat} (hp : l.Perm (idL k)) : (l ++ [(k : Int)]).Perm (idL (k + 1)) := by rw [idL_succ]; exact List.Perm.append_right _ hp
theorem perm_in {l : List Int} {k : Nat} (hp : l.Perm (idL k)) {j : Nat} (hj : j < l.length) : ∃ i : Nat, l[j] = (i : Int) ∧ i < k := by
  have h := hp.mem_iff.1 (List.getElem_mem hj)
  unfold idL at h
  obtain ⟨q, hq, he⟩ := List.mem_map.1 h
  exact ⟨q, he.symm, List.mem_range.1 hq⟩
theorem end_at {h : List Opn} {z : Int} {i : Nat} (hz : z = (i : Int)) (hi : i < h.length) : endAt h z = endO h[i] := by
  subst hz; unfold endAt; rw [Int.toNat_natCast, List.getElem?_eq_getElem hi]

set_option maxRecDepth 100000 in
set_option maxHeartbeats 8000000 in
theorem walk (v u : Value) (h : List Opn) (order : List Int) (W : World) (hr : ReadsO W v h) (ho : Reads vi W u order) : Calls Try.prog 9 #[v, u] W (BoolMade W true) := by
  have HR := Lib.hid hr
  have HO := Lib.hid ho
  have HSM := Lib.hid (rsmall_any v h 20 W hr)
  obtain ⟨ao, cap, rfl, hl, hm, -, -⟩ := hr
  obtain ⟨ao2, cap2, rfl, hl2, hm2, -, -⟩ := ho
  unfold maxLen at hm hm2
  go_enter Try.func9, Try.ntmps9
  have KW := Lib.hid (Below.refl W.heap.size W)
  by_cases hs : smallB h 20 = true
  · have HS := Lib.hid (SmallH.of (by decide) hs)
    have hn := HS.out.1
    rw [hs] at HSM
    clear hs
    go_wp2_with fail
    refine (HSM.out).mono ?_
    rintro e W ⟨rfl, rfl⟩
    by_cases hlen : order.length ≤ 30
    · have hleni : ¬ (30 : Int) < order.length := by omega
      have hor : order.length ≤ 1000 := by omega
      go_wp2_with fail
      refine (respects_any _ _ h order _ HR.out HO.out HS.out.1 hor).mono ?_
      rintro e w1 ⟨rfl, hb⟩
      replace HR := Lib.hid (HR.out.on hb)
      replace HO := Lib.hid (HO.out.keep hb)
      replace KW := Lib.hid (KW.out.trans (hb.mono KW.out.size))
      clear hb
      go_wp2_with fail
      refine (rrespects_any _ _ h order _ HR.out HO.out HS.out.1).mono ?_
      rintro e w2 ⟨rfl, hb⟩
      replace HR := Lib.hid (HR.out.on hb)
      replace HO := Lib.hid (HO.out.keep hb)
      replace KW := Lib.hid (KW.out.trans (hb.mono KW.out.size))
      clear hb
      generalize respB h order = rb at *
      by_cases hw : wellB h = true
      · have HW := Lib.hid hw
        clear hw
        go_wp2_with fail
        refine (rwell_any _ h _ HR.out HS.out).mono ?_
        rintro e w3 ⟨rfl, hb⟩
        replace HR := Lib.hid (HR.out.on hb)
        replace HO := Lib.hid (HO.out.keep hb)
        replace KW := Lib.hid (KW.out.trans (hb.mono KW.out.size))
        clear hb
        rw [HW.out]
        have HPD := Lib.hid (pending_any _ h _ HR.out HS.out.1)
        by_cases hp : idxL pendB h h.length = []
        · have HNP := Lib.hid (pend_none' hp)
          rw [hp] at HPD
          clear hp
          go_wp2_with fail
          refine (HPD.out).mono ?_
          rintro e w4 ⟨p, rfl, hp, hb⟩
          obtain ⟨ap, cp, rfl, -, hcp, -, -⟩ := hp
          unfold maxLen at hcp
          clear HPD
          replace HR := Lib.hid (HR.out.on hb)
          replace HO := Lib.hid (HO.out.keep hb)
          replace KW := Lib.hid (KW.out.trans (hb.mono KW.out.size))
          clear hb
          go_wp2
          go_loopg [5, 6] h.length (fun m bv i wr => ∃ (k : Nat) (l : List Int), m + k = h.length ∧ i = .int .i64 k ∧ l.length = k ∧ l.Perm (idL k) ∧ srtA h l ∧ wr.ownsRow w4.heap.size 3 1 bv k (l.map vi) ∧ Below w4.heap.size w4 wr)
          case atStart => exact ⟨0, [], by omega, rfl, rfl, List.Perm.refl _, fun a b ha => by simp at ha, World.ownsRow_made w4 #[] 0 (Nat.le_refl _) (Nat.zero_le _) rfl, (Below.refl _ _).alloc (Nat.le_refl _) _⟩
          case round =>
            obtain ⟨k, l, hmk, rfl, hlk, hpm, hsr, hown, hbel⟩ := hrel
            have HM := Lib.hid hmk
            have HL := Lib.hid (And.intro hlk (And.intro hpm hsr))
            have HOW := Lib.hid hown
            have K0 := Lib.hid hbel
            have hk : k ≤ h.length := by omega
            clear hmk hlk hpm hsr hown hbel
            by_cases hlt : k < h.length
            · have hki : (k : Int) < h.length := by omega
              have hk0 : (0 : Int) ≤ (k : Int) := by omega
              have HBX : Hid (Below wr.heap.size wr (wr.alloc (.cells #[.int .i64 (k : Int)] 3))) := Lib.hid ((Below.refl _ _).alloc (Nat.le_refl _) _)
              go_wp2_with (at_builtin; refine appendi_reads rfl (.tmp 41) (.tmp 43) rfl w4.heap.size _ (.slice (some ⟨wr.heap.size, 0, none⟩) 1 1) k l [(k : Int)] rfl (below_row HOW.out HBX.out) rfl (one_reads wr (k : Int)) (by simp; omega) (Nat.le_trans K0.out.size HBX.out.size) ?_)
              intro v8 w8 hown8 hgr8
              have K8 := Lib.hid (below_row_grown K0.out HBX.out HOW.out hgr8)
              obtain ⟨g, cap8, cur, rfl, hgn, hcap, hcm, hB, hsz, hll, hxs⟩ := row_open (xs := l ++ [(k : Int)]) (n := k + 1) (by simpa using hown8) (by omega)
              unfold maxLen at hcm
              have HGN := Lib.hid hgn
              have HIN : Hid ((l ++ [(k : Int)]).length = k + 1 ∧ (l ++ [(k : Int)]).Perm (idL (k + 1)) ∧ srtP h (l ++ [(k : Int)]) k) := Lib.hid ⟨by simp [HL.out.1], perm_snoc HL.out.2.1, by have h0 := srt_start HL.out.2.2 (k : Int); rwa [HL.out.1] at h0⟩
              have HCU : Hid (Blk w8 g 3 cur ∧ cur.size = cap8 ∧ ∀ j (hj : j < (l ++ [(k : Int)]).length), cur[j]? = some (vi (l ++ [(k : Int)])[j])) := Lib.hid ⟨hB, hsz, hxs⟩
              clear hown8 hgr8 hB hsz hll hxs hgn HOW HBX K0 HL
              go_wp2
              obtain ⟨G1, hG1⟩ : ∃ G, G = gk := ⟨_, rfl⟩
              subst hG1
              go_loopg [7] k (fun m j wr => ∃ (q : Nat) (l : List Int) (cur : Array Value), m = q ∧ j = .int .i64 q ∧ q ≤ k ∧ (l.length = k + 1 ∧ l.Perm (idL (k + 1)) ∧ srtP h l q) ∧ (Blk wr g 3 cur ∧ cur.size = cap8 ∧ ∀ j (hj : j < l.length), cur[j]? = some (vi l[j])) ∧ Below w4.heap.size w4 wr)
              case atStart => exact ⟨k, l ++ [(k : Int)], cur, rfl, by go_num, Nat.le_refl _, HIN.out, HCU.out, K8.out⟩
              case round =>
                clear HIN HCU K8
                clear cur l
                obtain ⟨q, l, cur, hm7, rfl, hqk, hin, hcu, hbel⟩ := hrel
                have HM2 := Lib.hid hm7
                have HIN := Lib.hid hin
                have HCU := Lib.hid hcu
                have K8 := Lib.hid hbel
                have HEX : Hid ((q = 0 ∨ ∀ (h1 : q < l.length) (_ : 0 < q), endAt h (l[q-1]'(Nat.lt_of_le_of_lt (Nat.sub_le q 1) h1)) ≤ endAt h (l[q]'h1)) → ∃ l2 : List Int, l2.length = k + 1 ∧ l2.Perm (idL (k + 1)) ∧ srtA h l2 ∧ wr.ownsRow w4.heap.size 3 1 (.slice (some ⟨g, 0, none⟩) (k + 1) cap8) (k + 1) (l2.map vi)) := Lib.hid fun hd =>
                  ⟨l, HIN.out.1, HIN.out.2.1, srt_end HIN.out.2.2 (by rw [HIN.out.1]; omega) (by
                    rcases Nat.eq_zero_or_pos q with h0 | h0
                    · exact .inl h0
                    · exact hd.elim .inl fun h1 => .inr (h1 (by rw [HIN.out.1]; omega) h0)), row_close HGN.out hcap (by unfold maxLen; exact hcm) HCU.out.1 HCU.out.2.1 (by rw [HIN.out.1]) HCU.out.2.2⟩
                clear hm7 hin hcu hbel
                cases q with
                | zero =>
                  have t0 : decide ((0 : Int) < 0) = false := by decide
                  obtain ⟨l2, z1, z2, z3, z4⟩ := HEX.out (.inl rfl)
                  have HZ := Lib.hid (And.intro z1 (And.intro z2 (And.intro z3 z4)))
                  clear z1 z2 z3 z4 HEX HIN HCU
                  go_wp2_with fail
                  refine region_left [.is (.int .i64 0), .is (.bool false), .is (.bool false), .is undef, .is undef, .is undef, .is undef, .is undef, .is undef, .is undef, .is undef, .is undef, .is undef, .is undef, .is undef, .is undef, .is undef, .is undef, .is undef, .is undef, .is undef, .is (.bool false)] (by kernel_rfl) rfl (by kernel_rfl) (by kernel_rfl) (.cons ?q1_0 (.cons ?q1_1 (.cons ?q1_2 (.cons ?q1_3 (.cons ?q1_4 (.cons ?q1_5 (.cons ?q1_6 (.cons ?q1_7 (.cons ?q1_8 (.cons ?q1_9 (.cons ?q1_10 (.cons ?q1_11 (.cons ?q1_12 (.cons ?q1_13 (.cons ?q1_14 (.cons ?q1_15 (.cons ?q1_16 (.cons ?q1_17 (.cons ?q1_18 (.cons ?q1_19 (.cons ?q1_20 (.cons ?q1_21 .nil)))))))))))))))))))))) ?q1_fin
                  case q1_0 =>
                    intro wq hbw st  K hK
                    simp only [Act.put, List.setIfInBounds_toArray, List.set_cons_zero, List.set_cons_succ] at hK ⊢
                    unfold opStep
                    rw [if_pos (by rfl)]
                    go_simp
                    exact hK.out _ _ (Below.refl _ _) rfl _ rfl
                  case q1_1 =>
                    intro wq hbw st  K hK
                    simp only [Act.put, List.setIfInBounds_toArray, List.set_cons_zero, List.set_cons_succ] at hK ⊢
                    unfold opStep
                    rw [if_pos (by rfl)]
                    go_simp
                    exact hK.out _ _ (Below.refl _ _) rfl _ rfl
                  case q1_2 =>
                    intro wq hbw st  K hK
                    simp only [Act.put, List.setIfInBounds_toArray, List.set_cons_zero, List.set_cons_succ] at hK ⊢
                    unfold opStep
                    rw [if_pos (by rfl)]
                    go_simp
                    exact hK.out _ _ (Below.refl _ _) rfl _ rfl
                  case q1_3 =>
                    intro wq hbw st  K hK
                    simp only [Act.put, List.setIfInBounds_toArray, List.set_cons_zero, List.set_cons_succ] at hK ⊢
                    unfold opStep
                    rw [if_neg (by change ¬ (false = true); exact Bool.false_ne_true)]
                    exact hK.out _ _ (Below.refl _ _) rfl _ rfl
                  case q1_4 =>
                    intro wq hbw st  K hK
                    simp only [Act.put, List.setIfInBounds_toArray, List.set_cons_zero, List.set_cons_succ] at hK ⊢
                    unfold opStep
                    rw [if_neg (by change ¬ (false = true); exact Bool.false_ne_true)]
                    exact hK.out _ _ (Below.refl _ _) rfl _ rfl
                  case q1_5 =>
                    intro wq hbw st  K hK
                    simp only [Act.put, List.setIfInBounds_toArray, List.set_cons_zero, List.set_cons_succ] at hK ⊢
                    unfold opStep
                    rw [if_neg (by change ¬ (false = true); exact Bool.false_ne_true)]
                    exact hK.out _ _ (Below.refl _ _) rfl _ rfl
                  case q1_6 =>
                    intro wq hbw st  K hK
                    simp only [Act.put, List.setIfInBounds_toArray, List.set_cons_zero, List.set_cons_succ] at hK ⊢
                    unfold opStep
                    rw [if_neg (by change ¬ (false = true); exact Bool.false_ne_true)]
                    exact hK.out _ _ (Below.refl _ _) rfl _ rfl
                  case q1_7 =>
                    intro wq hbw st  K hK
                    simp only [Act.put, List.setIfInBounds_toArray, List.set_cons_zero, List.set_cons_succ] at hK ⊢
                    unfold opStep
                    rw [if_neg (by change ¬ (false = true); exact Bool.false_ne_true)]
                    exact hK.out _ _ (Below.refl _ _) rfl _ rfl
                  case q1_8 =>
                    intro wq hbw st  K hK
                    simp only [Act.put, List.setIfInBounds_toArray, List.set_cons_zero, List.set_cons_succ] at hK ⊢
                    unfold opStep
                    rw [if_neg (by change ¬ (false = true); exact Bool.false_ne_true)]
                    exact hK.out _ _ (Below.refl _ _) rfl _ rfl
                  case q1_9 =>
                    intro wq hbw st  K hK
                    simp only [Act.put, List.setIfInBounds_toArray, List.set_cons_zero, List.set_cons_succ] at hK ⊢
                    unfold opStep
                    rw [if_neg (by change ¬ (false = true); exact Bool.false_ne_true)]
                    exact hK.out _ _ (Below.refl _ _) rfl _ rfl
                  case q1_10 =>
                    intro wq hbw st  K hK
                    simp only [Act.put, List.setIfInBounds_toArray, List.set_cons_zero, List.set_cons_succ] at hK ⊢
                    unfold opStep
                    rw [if_neg (by change ¬ (false = true); exact Bool.false_ne_true)]
                    exact hK.out _ _ (Below.refl _ _) rfl _ rfl
                  case q1_11 =>
                    intro wq hbw st  K hK
                    simp only [Act.put, List.setIfInBounds_toArray, List.set_cons_zero, List.set_cons_succ] at hK ⊢
                    unfold opStep
                    rw [if_neg (by change ¬ (false = true); exact Bool.false_ne_true)]
                    exact hK.out _ _ (Below.refl _ _) rfl _ rfl
                  case q1_12 =>
                    intro wq hbw st  K hK
                    simp only [Act.put, List.setIfInBounds_toArray, List.set_cons_zero, List.set_cons_succ] at hK ⊢
                    unfold opStep
                    rw [if_neg (by change ¬ (false = true); exact Bool.false_ne_true)]
                    exact hK.out _ _ (Below.refl _ _) rfl _ rfl
                  case q1_13 =>
                    intro wq hbw st  K hK
                    simp only [Act.put, List.setIfInBounds_toArray, List.set_cons_zero, List.set_cons_succ] at hK ⊢
                    unfold opStep
                    rw [if_neg (by change ¬ (false = true); exact Bool.false_ne_true)]
                    exact hK.out _ _ (Below.refl _ _) rfl _ rfl
                  case q1_14 =>
                    intro wq hbw st  K hK
                    simp only [Act.put, List.setIfInBounds_toArray, List.set_cons_zero, List.set_cons_succ] at hK ⊢
                    unfold opStep
                    rw [if_neg (by change ¬ (false = true); exact Bool.false_ne_true)]
                    exact hK.out _ _ (Below.refl _ _) rfl _ rfl
                  case q1_15 =>
                    intro wq hbw st  K hK
                    simp only [Act.put, List.setIfInBounds_toArray, List.set_cons_zero, List.set_cons_succ] at hK ⊢
                    unfold opStep
                    rw [if_neg (by change ¬ (false = true); exact Bool.false_ne_true)]
                    exact hK.out _ _ (Below.refl _ _) rfl _ rfl
                  case q1_16 =>
                    intro wq hbw st  K hK
                    simp only [Act.put, List.setIfInBounds_toArray, List.set_cons_zero, List.set_cons_succ] at hK ⊢
                    unfold opStep
                    rw [if_neg (by change ¬ (false = true); exact Bool.false_ne_true)]
                    exact hK.out _ _ (Below.refl _ _) rfl _ rfl
                  case q1_17 =>
                    intro wq hbw st  K hK
                    simp only [Act.put, List.setIfInBounds_toArray, List.set_cons_zero, List.set_cons_succ] at hK ⊢
                    unfold opStep
                    rw [if_neg (by change ¬ (false = true); exact Bool.false_ne_true)]
                    exact hK.out _ _ (Below.refl _ _) rfl _ rfl
                  case q1_18 =>
                    intro wq hbw st  K hK
                    simp only [Act.put, List.setIfInBounds_toArray, List.set_cons_zero, List.set_cons_succ] at hK ⊢
                    unfold opStep
                    rw [if_neg (by change ¬ (false = true); exact Bool.false_ne_true)]
                    exact hK.out _ _ (Below.refl _ _) rfl _ rfl
                  case q1_19 =>
                    intro wq hbw st  K hK
                    simp only [Act.put, List.setIfInBounds_toArray, List.set_cons_zero, List.set_cons_succ] at hK ⊢
                    unfold opStep
                    rw [if_neg (by change ¬ (false = true); exact Bool.false_ne_true)]
                    exact hK.out _ _ (Below.refl _ _) rfl _ rfl
                  case q1_20 =>
                    intro wq hbw st  K hK
                    simp only [Act.put, List.setIfInBounds_toArray, List.set_cons_zero, List.set_cons_succ] at hK ⊢
                    unfold opStep
                    rw [if_neg (by change ¬ (false = true); exact Bool.false_ne_true)]
                    exact hK.out _ _ (Below.refl _ _) rfl _ rfl
                  case q1_21 =>
                    intro wq hbw st  K hK
                    simp only [Act.put, List.setIfInBounds_toArray, List.set_cons_zero, List.set_cons_succ] at hK ⊢
                    unfold opStep
                    rw [if_pos (by rfl)]
                    go_simp
                    exact hK.out _ _ (Below.refl _ _) rfl _ rfl
                  case q1_fin =>
                    intro wq hbw
                    try simp only [FinAll]
                    simp only [Act.put, List.setIfInBounds_toArray, List.set_cons_zero, List.set_cons_succ]
                    replace K8 := Lib.hid (K8.out.trans (hbw.mono K8.out.size))
                    have HZR := Lib.hid (below_row HZ.out.2.2.2 hbw)
                    clear hbw
                    go_wp2
                    go_roundg (h.length - (k + 1))
                    case measure => have := HM.out; omega
                    case rel => exact ⟨k + 1, l2, by omega, by go_num, HZ.out.1, HZ.out.2.1, HZ.out.2.2.1, HZR.out, K8.out⟩
                | succ j =>
                  have hcast : ((j + 1 : Nat) : Int) = (j : Int) + 1 := by omega
                  rw [hcast]
                  have HC0 := Lib.hid hcast
                  clear hcast
                  have hj1 : j + 1 < l.length := by rw [HIN.out.1]; omega
                  obtain ⟨i1, hi1, hb1⟩ := perm_in HIN.out.2.1 hj1
                  obtain ⟨i2, hi2, hb2⟩ := perm_in HIN.out.2.1 (show j < l.length by omega)
                  have hl1 : i1 < h.length := by omega
                  have hl3 : i2 < h.length := by omega
                  have HE1 := Lib.hid (end_at hi1 hl1)
                  have HE2 := Lib.hid (end_at hi2 hl3)
                  have HXR : Hid (cur[j+1]? = some (.int .i64 (i1 : Int))) := Lib.hid (by rw [HCU.out.2.2 (j + 1) hj1, hi1]; rfl)
                  have HXP : Hid (cur[j]? = some (.int .i64 (i2 : Int))) := Lib.hid (by rw [HCU.out.2.2 j (by omega), hi2]; rfl)
                  have HXP2 : Hid ((cur.setIfInBounds (j + 1) (.int .i64 (i2 : Int)))[j]? = some (.int .i64 (i2 : Int))) := Lib.hid (by rw [Array.getElem?_setIfInBounds, if_neg (by omega)]; exact HXP.out)
                  have HSW := Lib.hid (swap_at hj1 (show j < l.length by omega) HCU.out.2.2)
                  have HST := Lib.hid (fun he => srt_step (l := l) hj1 (Nat.succ_pos j) HIN.out.2.2 he)
                  have HSE := Lib.hid (swp_eq (l := l) hj1 (Nat.succ_pos j))
                  have HSP := Lib.hid (swp_perm (l := l) hj1 (Nat.succ_pos j))
                  have HBK := Lib.hid HCU.out.1
                  have HI := Lib.hid (And.intro hi1 hi2)
                  clear hi1 hi2
                  obtain ⟨b, off, cap1, a4, c4, a5, c5, hv, _, _, hm4, hm5, hl4, hl5, hcell, r1, r2⟩ := HR.out.at2 hl1
                  injection hv with e1 e2 e3
                  subst e1
                  obtain ⟨b', off', cap1', d4, k4, d5, k5, hv, _, _, n4, n5, l4, l5, hcell', s1, s2⟩ := HR.out.at2 hl3
                  injection hv with e4 e5 e6
                  injection e4 with e4
                  injection e4 with e4 e7
                  subst e4 e7
                  have hii : (i1 : Int) < h.length := by omega
                  have hi0 : (0 : Int) ≤ (i1 : Int) := by omega
                  have hij : (i2 : Int) < h.length := by omega
                  have hi02 : (0 : Int) ≤ (i2 : Int) := by omega
                  have HN := Lib.hid (And.intro hcell (And.intro r1 r2))
                  have HN2 := Lib.hid (And.intro hcell' (And.intro s1 s2))
                  clear e2 e3 e5 e6 hcell r1 r2 hcell' s1 s2
                  generalize h[i1] = x at *
                  generalize h[i2] = y at *
                  have t0 : decide ((0 : Int) < (j : Int) + 1) = true := decide_eq_true (by omega)
                  have t1 : (0 : Int) < (j : Int) + 1 := by omega
                  have hj0 : (0 : Int) ≤ (j : Int) := by omega
                  have hjk : (j : Int) + 1 < (k : Int) + 1 := by omega
                  have hjk2 : (j : Int) < (k : Int) + 1 := by omega
                  have hjp : (0 : Int) ≤ (j : Int) + 1 := by omega
                  have wr2 : IntKind.i64.wrap ((j : Int) + 1 - 1) = (j : Int) := by rw [Int.add_sub_cancel]; exact IntWalk.i64_in _ (by omega)
                  have wr3 : IntKind.i64.wrap (j : Int) = (j : Int) := IntWalk.i64_in _ (by omega)
                  have tn : ((j : Int) + 1).toNat = j + 1 := by omega
                  by_cases he : endO x < endO y
                  · have HLT := Lib.hid (HST.out (by rw [HE1.out]; have e0 : endAt h l[j + 1 - 1] = endO y := HE2.out; rw [e0]; exact he))
                    have te : decide (endO x < endO y) = true := decide_eq_true he
                    clear he HEX HST
                    go_wp2_with fail
                    refine region_left [.is (.int .i64 ((j : Int) + 1)), .is (.bool true), .is (.bool true), .is (.slice (some ⟨b, off, none⟩) h.length cap), .is (.slice (some ⟨g, 0, none⟩) (k + 1) cap8), .is (.int .i64 ((j : Int) + 1)), .is (.pointer (some ⟨g, (j + 1), none⟩)), .is (.int .i64 (i1 : Int)), .is (.pointer (some ⟨b, off + i1 * 6, none⟩)), .is (.pointer (some ⟨b, off + i1 * 6 + 3, none⟩)), .is (.int .i64 (endO x)), .is (.slice (some ⟨b, off, none⟩) h.length cap), .is (.slice (some ⟨g, 0, none⟩) (k + 1) cap8), .is (.int .i64 ((j : Int) + 1)), .is (.int .i64 (j : Int)), .is (.pointer (some ⟨g, j, none⟩)), .is (.int .i64 (i2 : Int)), .is (.pointer (some ⟨b, off + i2 * 6, none⟩)), .is (.pointer (some ⟨b, off + i2 * 6 + 3, none⟩)), .is (.int .i64 (endO y)), .is (.bool true), .is (.bool true)] (by kernel_rfl) rfl (by kernel_rfl) (by kernel_rfl) (.cons ?q3_0 (.cons ?q3_1 (.cons ?q3_2 (.cons ?q3_3 (.cons ?q3_4 (.cons ?q3_5 (.cons ?q3_6 (.cons ?q3_7 (.cons ?q3_8 (.cons ?q3_9 (.cons ?q3_10 (.cons ?q3_11 (.cons ?q3_12 (.cons ?q3_13 (.cons ?q3_14 (.cons ?q3_15 (.cons ?q3_16 (.cons ?q3_17 (.cons ?q3_18 (.cons ?q3_19 (.cons ?q3_20 (.cons ?q3_21 .nil)))))))))))))))))))))) ?q3_fin
                    case q3_0 =>
                      intro wq hbw st  K hK
                      have KQ := K8.out.trans (hbw.mono K8.out.size)
                      simp only [Act.put, List.setIfInBounds_toArray, List.set_cons_zero, List.set_cons_succ] at hK ⊢
                      unfold opStep
                      rw [if_pos (by rfl)]
                      go_simp
                      exact hK.out _ _ (Below.refl _ _) rfl _ rfl
                    case q3_1 =>
                      intro wq hbw st  K hK
                      have KQ := K8.out.trans (hbw.mono K8.out.size)
                      simp only [Act.put, List.setIfInBounds_toArray, List.set_cons_zero, List.set_cons_succ] at hK ⊢
                      unfold opStep
                      rw [if_pos (by rfl)]
                      go_simp
                      exact hK.out _ _ (Below.refl _ _) rfl _ rfl
                    case q3_2 =>
                      intro wq hbw st  K hK
                      have KQ := K8.out.trans (hbw.mono K8.out.size)
                      simp only [Act.put, List.setIfInBounds_toArray, List.set_cons_zero, List.set_cons_succ] at hK ⊢
                      unfold opStep
                      rw [if_pos (by rfl)]
                      go_simp
                      exact hK.out _ _ (Below.refl _ _) rfl _ rfl
                    case q3_3 =>
                      intro wq hbw st  K hK
                      have KQ := K8.out.trans (hbw.mono K8.out.size)
                      simp only [Act.put, List.setIfInBounds_toArray, List.set_cons_zero, List.set_cons_succ] at hK ⊢
                      unfold opStep
                      rw [if_pos (by rfl)]
                      go_simp
                      exact hK.out _ _ (Below.refl _ _) rfl _ rfl
                    case q3_4 =>
                      intro wq hbw st  K hK
                      have KQ := K8.out.trans (hbw.mono K8.out.size)
                      simp only [Act.put, List.setIfInBounds_toArray, List.set_cons_zero, List.set_cons_succ] at hK ⊢
                      unfold opStep
                      rw [if_pos (by rfl)]
                      go_simp
                      exact hK.out _ _ (Below.refl _ _) rfl _ rfl
                    case q3_5 =>
                      intro wq hbw st  K hK
                      have KQ := K8.out.trans (hbw.mono K8.out.size)
                      simp only [Act.put, List.setIfInBounds_toArray, List.set_cons_zero, List.set_cons_succ] at hK ⊢
                      unfold opStep
                      rw [if_pos (by rfl)]
                      go_simp
                      exact hK.out _ _ (Below.refl _ _) rfl _ rfl
                    case q3_6 =>
                      intro wq hbw st  K hK
                      have KQ := K8.out.trans (hbw.mono K8.out.size)
                      simp only [Act.put, List.setIfInBounds_toArray, List.set_cons_zero, List.set_cons_succ] at hK ⊢
                      unfold opStep
                      rw [if_pos (by rfl)]
                      go_simp
                      exact hK.out _ _ (Below.refl _ _) rfl _ rfl
                    case q3_7 =>
                      intro wq hbw st  K hK
                      have KQ := K8.out.trans (hbw.mono K8.out.size)
                      simp only [Act.put, List.setIfInBounds_toArray, List.set_cons_zero, List.set_cons_succ] at hK ⊢
                      unfold opStep
                      rw [if_pos (by rfl)]
                      have cc := ((HBK.out.on hbw).cell (j + 1)).trans HXR.out
                      go_simp
                      exact hK.out _ _ (Below.refl _ _) rfl _ rfl
                    case q3_8 =>
                      intro wq hbw st  K hK
                      have KQ := K8.out.trans (hbw.mono K8.out.size)
                      simp only [Act.put, List.setIfInBounds_toArray, List.set_cons_zero, List.set_cons_succ] at hK ⊢
                      unfold opStep
                      rw [if_pos (by rfl)]
                      go_simp
                      exact hK.out _ _ (Below.refl _ _) rfl _ rfl
                    case q3_9 =>
                      intro wq hbw st  K hK
                      have KQ := K8.out.trans (hbw.mono K8.out.size)
                      simp only [Act.put, List.setIfInBounds_toArray, List.set_cons_zero, List.set_cons_succ] at hK ⊢
                      unfold opStep
                      rw [if_pos (by rfl)]
                      go_simp
                      exact hK.out _ _ (Below.refl _ _) rfl _ rfl
                    case q3_10 =>
                      intro wq hbw st  K hK
                      have KQ := K8.out.trans (hbw.mono K8.out.size)
                      simp only [Act.put, List.setIfInBounds_toArray, List.set_cons_zero, List.set_cons_succ] at hK ⊢
                      unfold opStep
                      rw [if_pos (by rfl)]
                      have dd := Lib.hid (HN.out.1 wq KQ)
                      have d3 := dd.out.2.2.2.1
                      go_simp
                      exact hK.out _ _ (Below.refl _ _) rfl _ rfl
                    case q3_11 =>
                      intro wq hbw st  K hK
                      have KQ := K8.out.trans (hbw.mono K8.out.size)
                      simp only [Act.put, List.setIfInBounds_toArray, List.set_cons_zero, List.set_cons_succ] at hK ⊢
                      unfold opStep
                      rw [if_pos (by rfl)]
                      go_simp
                      exact hK.out _ _ (Below.refl _ _) rfl _ rfl
                    case q3_12 =>
                      intro wq hbw st  K hK
                      have KQ := K8.out.trans (hbw.mono K8.out.size)
                      simp only [Act.put, List.setIfInBounds_toArray, List.set_cons_zero, List.set_cons_succ] at hK ⊢
                      unfold opStep
                      rw [if_pos (by rfl)]
                      go_simp
                      exact hK.out _ _ (Below.refl _ _) rfl _ rfl
                    case q3_13 =>
                      intro wq hbw st  K hK
                      have KQ := K8.out.trans (hbw.mono K8.out.size)
                      simp only [Act.put, List.setIfInBounds_toArray, List.set_cons_zero, List.set_cons_succ] at hK ⊢
                      unfold opStep
                      rw [if_pos (by rfl)]
                      go_simp
                      exact hK.out _ _ (Below.refl _ _) rfl _ rfl
                    case q3_14 =>
                      intro wq hbw st  K hK
                      have KQ := K8.out.trans (hbw.mono K8.out.size)
                      simp only [Act.put, List.setIfInBounds_toArray, List.set_cons_zero, List.set_cons_succ] at hK ⊢
                      unfold opStep
                      rw [if_pos (by rfl)]
                      go_simp
                      exact hK.out _ _ (Below.refl _ _) rfl _ rfl
                    case q3_15 =>
                      intro wq hbw st  K hK
                      have KQ := K8.out.trans (hbw.mono K8.out.size)
                      simp only [Act.put, List.setIfInBounds_toArray, List.set_cons_zero, List.set_cons_succ] at hK ⊢
                      unfold opStep
                      rw [if_pos (by rfl)]
                      go_simp
                      exact hK.out _ _ (Below.refl _ _) rfl _ rfl
                    case q3_16 =>
                      intro wq hbw st  K hK
                      have KQ := K8.out.trans (hbw.mono K8.out.size)
                      simp only [Act.put, List.setIfInBounds_toArray, List.set_cons_zero, List.set_cons_succ] at hK ⊢
                      unfold opStep
                      rw [if_pos (by rfl)]
                      have cc := ((HBK.out.on hbw).cell j).trans HXP.out
                      go_simp
                      exact hK.out _ _ (Below.refl _ _) rfl _ rfl
                    case q3_17 =>
                      intro wq hbw st  K hK
                      have KQ := K8.out.trans (hbw.mono K8.out.size)
                      simp only [Act.put, List.setIfInBounds_toArray, List.set_cons_zero, List.set_cons_succ] at hK ⊢
                      unfold opStep
                      rw [if_pos (by rfl)]
                      go_simp
                      exact hK.out _ _ (Below.refl _ _) rfl _ rfl
                    case q3_18 =>
                      intro wq hbw st  K hK
                      have KQ := K8.out.trans (hbw.mono K8.out.size)
                      simp only [Act.put, List.setIfInBounds_toArray, List.set_cons_zero, List.set_cons_succ] at hK ⊢
                      unfold opStep
                      rw [if_pos (by rfl)]
                      go_simp
                      exact hK.out _ _ (Below.refl _ _) rfl _ rfl
                    case q3_19 =>
                      intro wq hbw st  K hK
                      have KQ := K8.out.trans (hbw.mono K8.out.size)
                      simp only [Act.put, List.setIfInBounds_toArray, List.set_cons_zero, List.set_cons_succ] at hK ⊢
                      unfold opStep
                      rw [if_pos (by rfl)]
                      have dd := Lib.hid (HN2.out.1 wq KQ)
                      have d3 := dd.out.2.2.2.1
                      go_simp
                      exact hK.out _ _ (Below.refl _ _) rfl _ rfl
                    case q3_20 =>
                      intro wq hbw st  K hK
                      have KQ := K8.out.trans (hbw.mono K8.out.size)
                      simp only [Act.put, List.setIfInBounds_toArray, List.set_cons_zero, List.set_cons_succ] at hK ⊢
                      unfold opStep
                      rw [if_pos (by rfl)]
                      go_simp
                      exact hK.out _ _ (Below.refl _ _) rfl _ rfl
                    case q3_21 =>
                      intro wq hbw st  K hK
                      have KQ := K8.out.trans (hbw.mono K8.out.size)
                      simp only [Act.put, List.setIfInBounds_toArray, List.set_cons_zero, List.set_cons_succ] at hK ⊢
                      unfold opStep
                      rw [if_pos (by rfl)]
                      go_simp
                      exact hK.out _ _ (Below.refl _ _) rfl _ rfl
                    case q3_fin =>
                      intro wq hbw
                      try simp only [FinAll]
                      simp only [Act.put, List.setIfInBounds_toArray, List.set_cons_zero, List.set_cons_succ]
                      replace K8 := Lib.hid (K8.out.trans (hbw.mono K8.out.size))
                      replace HBK := Lib.hid (HBK.out.on hbw)
                      have HSIZ := Lib.hid HCU.out.2.1
                      clear hbw te HN HN2 HCU
                      have hgn := HGN.out
                      generalize hxr : (i1 : Int) = xr at *
                      generalize hxp : (i2 : Int) = xp at *
                      have HX0 := Lib.hid (And.intro hxr hxp)
                      clear hxr hxp
                      go_wp2
                      go_wp2_with fail
                      refine region_inv w4.heap.size (JW g cur (cur.setIfInBounds (j + 1) (.int .i64 xp)) ((cur.setIfInBounds (j + 1) (.int .i64 xp)).setIfInBounds j (.int .i64 xr))) [some (.slice (some ⟨g, 0, none⟩) (k + 1) cap8), some (.int .i64 ((j : Int) + 1)), some (.slice (some ⟨g, 0, none⟩) (k + 1) cap8), some (.int .i64 ((j : Int) + 1)), some (.int .i64 (j : Int)), some (.slice (some ⟨g, 0, none⟩) (k + 1) cap8), some (.int .i64 ((j : Int) + 1)), some (.int .i64 (j : Int)), some (.pointer (some ⟨g, j, none⟩)), some (.int .i64 xp), some (.slice (some ⟨g, 0, none⟩) (k + 1) cap8), some (.int .i64 ((j : Int) + 1)), some (.pointer (some ⟨g, (j + 1), none⟩)), some (.int .i64 xr), some (.pointer (some ⟨g, (j + 1), none⟩)), some undef, some (.pointer (some ⟨g, j, none⟩)), some undef] (by kernel_rfl) rfl (by kernel_rfl) (by kernel_rfl) (fun st => JW.start HBK.out st) (.cons ?s2_0 (.cons ?s2_1 (.cons ?s2_2 (.cons ?s2_3 (.cons ?s2_4 (.cons ?s2_5 (.cons ?s2_6 (.cons ?s2_7 (.cons ?s2_8 (.cons ?s2_9 (.cons ?s2_10 (.cons ?s2_11 (.cons ?s2_12 (.cons ?s2_13 (.cons ?s2_14 (.cons ?s2_15 (.cons ?s2_16 (.cons ?s2_17 .nil)))))))))))))))))) ?s2_fin
                      case s2_0 =>
                        intro wq2 hbw D st hJ hD hdp K hK
                        simp only [Act.put, List.setIfInBounds_toArray, List.set_cons_zero, List.set_cons_succ] at hK ⊢
                        unfold opStep
                        rw [if_pos (by rfl)]
                        go_simp
                        exact hK.out _ _ (Below.refl _ _) (fun u hu => Option.some.inj hu) (hJ.pure 0 _ (by decide) (by decide)) _ rfl
                      case s2_1 =>
                        intro wq2 hbw D st hJ hD hdp K hK
                        simp only [Act.put, List.setIfInBounds_toArray, List.set_cons_zero, List.set_cons_succ] at hK ⊢
                        unfold opStep
                        rw [if_pos (by rfl)]
                        go_simp
                        exact hK.out _ _ (Below.refl _ _) (fun u hu => Option.some.inj hu) (hJ.pure 1 _ (by decide) (by decide)) _ rfl
                      case s2_2 =>
                        intro wq2 hbw D st hJ hD hdp K hK
                        simp only [Act.put, List.setIfInBounds_toArray, List.set_cons_zero, List.set_cons_succ] at hK ⊢
                        unfold opStep
                        rw [if_pos (by rfl)]
                        go_simp
                        exact hK.out _ _ (Below.refl _ _) (fun u hu => Option.some.inj hu) (hJ.pure 2 _ (by decide) (by decide)) _ rfl
                      case s2_3 =>
                        intro wq2 hbw D st hJ hD hdp K hK
                        simp only [Act.put, List.setIfInBounds_toArray, List.set_cons_zero, List.set_cons_succ] at hK ⊢
                        unfold opStep
                        rw [if_pos (by rfl)]
                        go_simp
                        exact hK.out _ _ (Below.refl _ _) (fun u hu => Option.some.inj hu) (hJ.pure 3 _ (by decide) (by decide)) _ rfl
                      case s2_4 =>
                        intro wq2 hbw D st hJ hD hdp K hK
                        simp only [Act.put, List.setIfInBounds_toArray, List.set_cons_zero, List.set_cons_succ] at hK ⊢
                        unfold opStep
                        rw [if_pos (by rfl)]
                        go_simp
                        exact hK.out _ _ (Below.refl _ _) (fun u hu => Option.some.inj hu) (hJ.pure 4 _ (by decide) (by decide)) _ rfl
                      case s2_5 =>
                        intro wq2 hbw D st hJ hD hdp K hK
                        simp only [Act.put, List.setIfInBounds_toArray, List.set_cons_zero, List.set_cons_succ] at hK ⊢
                        unfold opStep
                        rw [if_pos (by rfl)]
                        go_simp
                        exact hK.out _ _ (Below.refl _ _) (fun u hu => Option.some.inj hu) (hJ.pure 5 _ (by decide) (by decide)) _ rfl
                      case s2_6 =>
                        intro wq2 hbw D st hJ hD hdp K hK
                        simp only [Act.put, List.setIfInBounds_toArray, List.set_cons_zero, List.set_cons_succ] at hK ⊢
                        unfold opStep
                        rw [if_pos (by rfl)]
                        go_simp
                        exact hK.out _ _ (Below.refl _ _) (fun u hu => Option.some.inj hu) (hJ.pure 6 _ (by decide) (by decide)) _ rfl
                      case s2_7 =>
                        intro wq2 hbw D st hJ hD hdp K hK
                        simp only [Act.put, List.setIfInBounds_toArray, List.set_cons_zero, List.set_cons_succ] at hK ⊢
                        unfold opStep
                        rw [if_pos (by rfl)]
                        go_simp
                        exact hK.out _ _ (Below.refl _ _) (fun u hu => Option.some.inj hu) (hJ.pure 7 _ (by decide) (by decide)) _ rfl
                      case s2_8 =>
                        intro wq2 hbw D st hJ hD hdp K hK
                        simp only [Act.put, List.setIfInBounds_toArray, List.set_cons_zero, List.set_cons_succ] at hK ⊢
                        unfold opStep
                        rw [if_pos (by rfl)]
                        go_simp
                        exact hK.out _ _ (Below.refl _ _) (fun u hu => Option.some.inj hu) (hJ.pure 8 _ (by decide) (by decide)) _ rfl
                      case s2_9 =>
                        intro wq2 hbw D st hJ hD hdp K hK
                        simp only [Act.put, List.setIfInBounds_toArray, List.set_cons_zero, List.set_cons_succ] at hK ⊢
                        unfold opStep
                        rw [if_pos (by rfl)]
                        have hA := hJ.atA (hJ.no9 hD)
                        have cc := (hA.cell j).trans HXP.out
                        go_simp
                        exact hK.out _ _ (Below.refl _ _) (fun u hu => Option.some.inj hu) (hJ.pure 9 _ (by decide) (by decide)) _ rfl
                      case s2_10 =>
                        intro wq2 hbw D st hJ hD hdp K hK
                        simp only [Act.put, List.setIfInBounds_toArray, List.set_cons_zero, List.set_cons_succ] at hK ⊢
                        unfold opStep
                        rw [if_pos (by rfl)]
                        go_simp
                        exact hK.out _ _ (Below.refl _ _) (fun u hu => Option.some.inj hu) (hJ.pure 10 _ (by decide) (by decide)) _ rfl
                      case s2_11 =>
                        intro wq2 hbw D st hJ hD hdp K hK
                        simp only [Act.put, List.setIfInBounds_toArray, List.set_cons_zero, List.set_cons_succ] at hK ⊢
                        unfold opStep
                        rw [if_pos (by rfl)]
                        go_simp
                        exact hK.out _ _ (Below.refl _ _) (fun u hu => Option.some.inj hu) (hJ.pure 11 _ (by decide) (by decide)) _ rfl
                      case s2_12 =>
                        intro wq2 hbw D st hJ hD hdp K hK
                        simp only [Act.put, List.setIfInBounds_toArray, List.set_cons_zero, List.set_cons_succ] at hK ⊢
                        unfold opStep
                        rw [if_pos (by rfl)]
                        go_simp
                        exact hK.out _ _ (Below.refl _ _) (fun u hu => Option.some.inj hu) (hJ.pure 12 _ (by decide) (by decide)) _ rfl
                      case s2_13 =>
                        intro wq2 hbw D st hJ hD hdp K hK
                        simp only [Act.put, List.setIfInBounds_toArray, List.set_cons_zero, List.set_cons_succ] at hK ⊢
                        unfold opStep
                        rw [if_pos (by rfl)]
                        have hA := hJ.atA (hJ.no13 hD)
                        have cc := (hA.cell (j + 1)).trans HXR.out
                        go_simp
                        exact hK.out _ _ (Below.refl _ _) (fun u hu => Option.some.inj hu) (hJ.pure 13 _ (by decide) (by decide)) _ rfl
                      case s2_14 =>
                        intro wq2 hbw D st hJ hD hdp K hK
                        simp only [Act.put, List.setIfInBounds_toArray, List.set_cons_zero, List.set_cons_succ] at hK ⊢
                        unfold opStep
                        rw [if_pos (by rfl)]
                        go_simp
                        exact hK.out _ _ (Below.refl _ _) (fun u hu => Option.some.inj hu) (hJ.pure 14 _ (by decide) (by decide)) _ rfl
                      case s2_15 =>
                        intro wq2 hbw D st hJ hD hdp K hK
                        simp only [Act.put, List.setIfInBounds_toArray, List.set_cons_zero, List.set_cons_succ] at hK ⊢
                        unfold opStep
                        rw [if_pos (by rfl)]
                        have hA := hJ.atA hD
                        have cc := (hA.cell (j + 1)).trans HXR.out
                        have ff := hA.frozen (j + 1)
                        go_simp
                        exact hK.out _ _ ((Below.refl _ _).setCell hgn _) (fun u hu => Option.some.inj hu) (hJ.s15 hD (hdp 9 (of_decide_eq_true (by kernel_rfl))) (hdp 13 (of_decide_eq_true (by kernel_rfl))) (hA.set_ (j + 1) _) _) _ rfl
                      case s2_16 =>
                        intro wq2 hbw D st hJ hD hdp K hK
                        simp only [Act.put, List.setIfInBounds_toArray, List.set_cons_zero, List.set_cons_succ] at hK ⊢
                        unfold opStep
                        rw [if_pos (by rfl)]
                        go_simp
                        exact hK.out _ _ (Below.refl _ _) (fun u hu => Option.some.inj hu) (hJ.pure 16 _ (by decide) (by decide)) _ rfl
                      case s2_17 =>
                        intro wq2 hbw D st hJ hD hdp K hK
                        simp only [Act.put, List.setIfInBounds_toArray, List.set_cons_zero, List.set_cons_succ] at hK ⊢
                        unfold opStep
                        rw [if_pos (by rfl)]
                        have hA := hJ.atB (hdp 15 (of_decide_eq_true (by kernel_rfl))) hD
                        have cc := (hA.cell j).trans HXP2.out
                        have ff := hA.frozen j
                        go_simp
                        exact hK.out _ _ ((Below.refl _ _).setCell hgn _) (fun u hu => Option.some.inj hu) (hJ.s17 (hdp 15 (of_decide_eq_true (by kernel_rfl))) (hA.set_ j _) _) _ rfl
                      case s2_fin =>
                        intro wq2 hbw D st hall hJ
                        simp only [FinAll, lfOf]
                        simp only [Act.put, List.setIfInBounds_toArray, List.set_cons_zero, List.set_cons_succ]
                        have HC := Lib.hid (hJ.fin fun j hj => hall j (by simpa using hj))
                        clear hJ hall
                        replace K8 := Lib.hid (K8.out.trans hbw)
                        clear hbw
                        go_wp2
                        go_roundg j
                        case measure => have := HM2.out; omega
                        case rel => exact ⟨j, swp l (j + 1), _, rfl, by go_num, by omega, ⟨by rw [swp_len]; exact HIN.out.1, HSP.out.trans HIN.out.2.1, HLT.out⟩, ⟨HC.out, by simpa using HSIZ.out, fun i hi => by
                          have h0 := HSW.out i (by have := hi; rw [HSE.out] at this; exact this)
                          simp only [HSE.out]
                          rw [show vi l[j] = .int .i64 xp by unfold vi; rw [HI.out.2], show vi l[j + 1] = .int .i64 xr by unfold vi; rw [HI.out.1]] at h0
                          exact h0⟩, K8.out⟩
                  · have te : decide (endO x < endO y) = false := decide_eq_false he
                    obtain ⟨l2, z1, z2, z3, z4⟩ := HEX.out (.inr fun h1 h0 => by have e0 : endAt h l[j + 1 - 1] = endO y := HE2.out; rw [e0, HE1.out]; omega)
                    have HZ := Lib.hid (And.intro z1 (And.intro z2 (And.intro z3 z4)))
                    clear z1 z2 z3 z4 he HEX HST
                    go_wp2_with fail
                    refine region_left [.is (.int .i64 ((j : Int) + 1)), .is (.bool true), .is (.bool true), .is (.slice (some ⟨b, off, none⟩) h.length cap), .is (.slice (some ⟨g, 0, none⟩) (k + 1) cap8), .is (.int .i64 ((j : Int) + 1)), .is (.pointer (some ⟨g, (j + 1), none⟩)), .is (.int .i64 (i1 : Int)), .is (.pointer (some ⟨b, off + i1 * 6, none⟩)), .is (.pointer (some ⟨b, off + i1 * 6 + 3, none⟩)), .is (.int .i64 (endO x)), .is (.slice (some ⟨b, off, none⟩) h.length cap), .is (.slice (some ⟨g, 0, none⟩) (k + 1) cap8), .is (.int .i64 ((j : Int) + 1)), .is (.int .i64 (j : Int)), .is (.pointer (some ⟨g, j, none⟩)), .is (.int .i64 (i2 : Int)), .is (.pointer (some ⟨b, off + i2 * 6, none⟩)), .is (.pointer (some ⟨b, off + i2 * 6 + 3, none⟩)), .is (.int .i64 (endO y)), .is (.bool false), .is (.bool false)] (by kernel_rfl) rfl (by kernel_rfl) (by kernel_rfl) (.cons ?q4_0 (.cons ?q4_1 (.cons ?q4_2 (.cons ?q4_3 (.cons ?q4_4 (.cons ?q4_5 (.cons ?q4_6 (.cons ?q4_7 (.cons ?q4_8 (.cons ?q4_9 (.cons ?q4_10 (.cons ?q4_11 (.cons ?q4_12 (.cons ?q4_13 (.cons ?q4_14 (.cons ?q4_15 (.cons ?q4_16 (.cons ?q4_17 (.cons ?q4_18 (.cons ?q4_19 (.cons ?q4_20 (.cons ?q4_21 .nil)))))))))))))))))))))) ?q4_fin
                    case q4_0 =>
                      intro wq hbw st  K hK
                      have KQ := K8.out.trans (hbw.mono K8.out.size)
                      simp only [Act.put, List.setIfInBounds_toArray, List.set_cons_zero, List.set_cons_succ] at hK ⊢
                      unfold opStep
                      rw [if_pos (by rfl)]
                      go_simp
                      exact hK.out _ _ (Below.refl _ _) rfl _ rfl
                    case q4_1 =>
                      intro wq hbw st  K hK
                      have KQ := K8.out.trans (hbw.mono K8.out.size)
                      simp only [Act.put, List.setIfInBounds_toArray, List.set_cons_zero, List.set_cons_succ] at hK ⊢
                      unfold opStep
                      rw [if_pos (by rfl)]
                      go_simp
                      exact hK.out _ _ (Below.refl _ _) rfl _ rfl
                    case q4_2 =>
                      intro wq hbw st  K hK
                      have KQ := K8.out.trans (hbw.mono K8.out.size)
                      simp only [Act.put, List.setIfInBounds_toArray, List.set_cons_zero, List.set_cons_succ] at hK ⊢
                      unfold opStep
                      rw [if_pos (by rfl)]
                      go_simp
                      exact hK.out _ _ (Below.refl _ _) rfl _ rfl
                    case q4_3 =>
                      intro wq hbw st  K hK
                      have KQ := K8.out.trans (hbw.mono K8.out.size)
                      simp only [Act.put, List.setIfInBounds_toArray, List.set_cons_zero, List.set_cons_succ] at hK ⊢
                      unfold opStep
                      rw [if_pos (by rfl)]
                      go_simp
                      exact hK.out _ _ (Below.refl _ _) rfl _ rfl
                    case q4_4 =>
                      intro wq hbw st  K hK
                      have KQ := K8.out.trans (hbw.mono K8.out.size)
                      simp only [Act.put, List.setIfInBounds_toArray, List.set_cons_zero, List.set_cons_succ] at hK ⊢
                      unfold opStep
                      rw [if_pos (by rfl)]
                      go_simp
                      exact hK.out _ _ (Below.refl _ _) rfl _ rfl
                    case q4_5 =>
                      intro wq hbw st  K hK
                      have KQ := K8.out.trans (hbw.mono K8.out.size)
                      simp only [Act.put, List.setIfInBounds_toArray, List.set_cons_zero, List.set_cons_succ] at hK ⊢
                      unfold opStep
                      rw [if_pos (by rfl)]
                      go_simp
                      exact hK.out _ _ (Below.refl _ _) rfl _ rfl
                    case q4_6 =>
                      intro wq hbw st  K hK
                      have KQ := K8.out.trans (hbw.mono K8.out.size)
                      simp only [Act.put, List.setIfInBounds_toArray, List.set_cons_zero, List.set_cons_succ] at hK ⊢
                      unfold opStep
                      rw [if_pos (by rfl)]
                      go_simp
                      exact hK.out _ _ (Below.refl _ _) rfl _ rfl
                    case q4_7 =>
                      intro wq hbw st  K hK
                      have KQ := K8.out.trans (hbw.mono K8.out.size)
                      simp only [Act.put, List.setIfInBounds_toArray, List.set_cons_zero, List.set_cons_succ] at hK ⊢
                      unfold opStep
                      rw [if_pos (by rfl)]
                      have cc := ((HBK.out.on hbw).cell (j + 1)).trans HXR.out
                      go_simp
                      exact hK.out _ _ (Below.refl _ _) rfl _ rfl
                    case q4_8 =>
                      intro wq hbw st  K hK
                      have KQ := K8.out.trans (hbw.mono K8.out.size)
                      simp only [Act.put, List.setIfInBounds_toArray, List.set_cons_zero, List.set_cons_succ] at hK ⊢
                      unfold opStep
                      rw [if_pos (by rfl)]
                      go_simp
                      exact hK.out _ _ (Below.refl _ _) rfl _ rfl
                    case q4_9 =>
                      intro wq hbw st  K hK
                      have KQ := K8.out.trans (hbw.mono K8.out.size)
                      simp only [Act.put, List.setIfInBounds_toArray, List.set_cons_zero, List.set_cons_succ] at hK ⊢
                      unfold opStep
                      rw [if_pos (by rfl)]
                      go_simp
                      exact hK.out _ _ (Below.refl _ _) rfl _ rfl
                    case q4_10 =>
                      intro wq hbw st  K hK
                      have KQ := K8.out.trans (hbw.mono K8.out.size)
                      simp only [Act.put, List.setIfInBounds_toArray, List.set_cons_zero, List.set_cons_succ] at hK ⊢
                      unfold opStep
                      rw [if_pos (by rfl)]
                      have dd := Lib.hid (HN.out.1 wq KQ)
                      have d3 := dd.out.2.2.2.1
                      go_simp
                      exact hK.out _ _ (Below.refl _ _) rfl _ rfl
                    case q4_11 =>
                      intro wq hbw st  K hK
                      have KQ := K8.out.trans (hbw.mono K8.out.size)
                      simp only [Act.put, List.setIfInBounds_toArray, List.set_cons_zero, List.set_cons_succ] at hK ⊢
                      unfold opStep
                      rw [if_pos (by rfl)]
                      go_simp
                      exact hK.out _ _ (Below.refl _ _) rfl _ rfl
                    case q4_12 =>
                      intro wq hbw st  K hK
                      have KQ := K8.out.trans (hbw.mono K8.out.size)
                      simp only [Act.put, List.setIfInBounds_toArray, List.set_cons_zero, List.set_cons_succ] at hK ⊢
                      unfold opStep
                      rw [if_pos (by rfl)]
                      go_simp
                      exact hK.out _ _ (Below.refl _ _) rfl _ rfl
                    case q4_13 =>
                      intro wq hbw st  K hK
                      have KQ := K8.out.trans (hbw.mono K8.out.size)
                      simp only [Act.put, List.setIfInBounds_toArray, List.set_cons_zero, List.set_cons_succ] at hK ⊢
                      unfold opStep
                      rw [if_pos (by rfl)]
                      go_simp
                      exact hK.out _ _ (Below.refl _ _) rfl _ rfl
                    case q4_14 =>
                      intro wq hbw st  K hK
                      have KQ := K8.out.trans (hbw.mono K8.out.size)
                      simp only [Act.put, List.setIfInBounds_toArray, List.set_cons_zero, List.set_cons_succ] at hK ⊢
                      unfold opStep
                      rw [if_pos (by rfl)]
                      go_simp
                      exact hK.out _ _ (Below.refl _ _) rfl _ rfl
                    case q4_15 =>
                      intro wq hbw st  K hK
                      have KQ := K8.out.trans (hbw.mono K8.out.size)
                      simp only [Act.put, List.setIfInBounds_toArray, List.set_cons_zero, List.set_cons_succ] at hK ⊢
                      unfold opStep
                      rw [if_pos (by rfl)]
                      go_simp
                      exact hK.out _ _ (Below.refl _ _) rfl _ rfl
                    case q4_16 =>
                      intro wq hbw st  K hK
                      have KQ := K8.out.trans (hbw.mono K8.out.size)
                      simp only [Act.put, List.setIfInBounds_toArray, List.set_cons_zero, List.set_cons_succ] at hK ⊢
                      unfold opStep
                      rw [if_pos (by rfl)]
                      have cc := ((HBK.out.on hbw).cell j).trans HXP.out
                      go_simp
                      exact hK.out _ _ (Below.refl _ _) rfl _ rfl
                    case q4_17 =>
                      intro wq hbw st  K hK
                      have KQ := K8.out.trans (hbw.mono K8.out.size)
                      simp only [Act.put, List.setIfInBounds_toArray, List.set_cons_zero, List.set_cons_succ] at hK ⊢
                      unfold opStep
                      rw [if_pos (by rfl)]
                      go_simp
                      exact hK.out _ _ (Below.refl _ _) rfl _ rfl
                    case q4_18 =>
                      intro wq hbw st  K hK
                      have KQ := K8.out.trans (hbw.mono K8.out.size)
                      simp only [Act.put, List.setIfInBounds_toArray, List.set_cons_zero, List.set_cons_succ] at hK ⊢
                      unfold opStep
                      rw [if_pos (by rfl)]
                      go_simp
                      exact hK.out _ _ (Below.refl _ _) rfl _ rfl
                    case q4_19 =>
                      intro wq hbw st  K hK
                      have KQ := K8.out.trans (hbw.mono K8.out.size)
                      simp only [Act.put, List.setIfInBounds_toArray, List.set_cons_zero, List.set_cons_succ] at hK ⊢
                      unfold opStep
                      rw [if_pos (by rfl)]
                      have dd := Lib.hid (HN2.out.1 wq KQ)
                      have d3 := dd.out.2.2.2.1
                      go_simp
                      exact hK.out _ _ (Below.refl _ _) rfl _ rfl
                    case q4_20 =>
                      intro wq hbw st  K hK
                      have KQ := K8.out.trans (hbw.mono K8.out.size)
                      simp only [Act.put, List.setIfInBounds_toArray, List.set_cons_zero, List.set_cons_succ] at hK ⊢
                      unfold opStep
                      rw [if_pos (by rfl)]
                      go_simp
                      exact hK.out _ _ (Below.refl _ _) rfl _ rfl
                    case q4_21 =>
                      intro wq hbw st  K hK
                      have KQ := K8.out.trans (hbw.mono K8.out.size)
                      simp only [Act.put, List.setIfInBounds_toArray, List.set_cons_zero, List.set_cons_succ] at hK ⊢
                      unfold opStep
                      rw [if_pos (by rfl)]
                      go_simp
                      exact hK.out _ _ (Below.refl _ _) rfl _ rfl
                    case q4_fin =>
                      intro wq hbw
                      try simp only [FinAll]
                      simp only [Act.put, List.setIfInBounds_toArray, List.set_cons_zero, List.set_cons_succ]
                      replace K8 := Lib.hid (K8.out.trans (hbw.mono K8.out.size))
                      have HZR := Lib.hid (below_row HZ.out.2.2.2 hbw)
                      clear hbw
                      go_wp2
                      go_roundg (h.length - (k + 1))
                      case measure => have := HM.out; omega
                      case rel => exact ⟨k + 1, l2, by omega, by go_num, HZ.out.1, HZ.out.2.1, HZ.out.2.2.1, HZR.out, K8.out⟩
            · have HRD : Hid (Reads vi wr u5 l) := Lib.hid (Reads.of_owns HOW.out)
              have HRB : Hid (respB h l = true) := Lib.hid (by_resp (well_of HW.out) (by have h0 := HL.out.2.1; rwa [show k = h.length by omega] at h0) HL.out.2.2 HNP.out)
              have hll : l.length ≤ 1000 := by rw [HL.out.1]; omega
              replace KW := Lib.hid (KW.out.trans (K0.out.mono KW.out.size))
              have HR8 := Lib.hid (HR.out.on K0.out)
              clear HL HOW K0
              go_wp2_with fail
              refine (awake_any _).mono ?_
              rintro e w1 ⟨rfl, hb⟩
              replace HR8 := Lib.hid (HR8.out.on hb)
              replace HRD := Lib.hid (HRD.out.keep hb)
              replace KW := Lib.hid (KW.out.trans (hb.mono KW.out.size))
              clear hb
              go_wp2_with fail
              refine (respects_any _ _ h l _ HR8.out HRD.out HS.out.1 hll).mono ?_
              rintro e w2 ⟨rfl, hb⟩
              replace HR8 := Lib.hid (HR8.out.on hb)
              replace HRD := Lib.hid (HRD.out.keep hb)
              replace KW := Lib.hid (KW.out.trans (hb.mono KW.out.size))
              clear hb
              rw [HRB.out]
              go_wp2
              go_ret
              exact ⟨rfl, KW.out⟩
        · have h0l : 0 < (idxL pendB h h.length).length := List.length_pos_iff.2 hp
          have hpl := idx_len pendB h h.length
          generalize idxL pendB h h.length = P at *
          clear hp
          go_wp2_with fail
          refine (HPD.out).mono ?_
          rintro e w4 ⟨p, rfl, hp, hb⟩
          obtain ⟨ap, cp, rfl, -, hcp, -, -⟩ := hp
          unfold maxLen at hcp
          clear HPD
          replace HR := Lib.hid (HR.out.on hb)
          replace HO := Lib.hid (HO.out.keep hb)
          replace KW := Lib.hid (KW.out.trans (hb.mono KW.out.size))
          clear hb
          have e0 := bne_t (show ¬ (P.length : Int) = 0 by omega)
          go_wp2_with fail
          refine (awake_any _).mono ?_
          rintro e w5 ⟨rfl, hb⟩
          replace HR := Lib.hid (HR.out.on hb)
          replace HO := Lib.hid (HO.out.keep hb)
          replace KW := Lib.hid (KW.out.trans (hb.mono KW.out.size))
          clear hb
          go_wp2
          go_ret
          exact ⟨rfl, KW.out⟩
      · have HW := Lib.hid (Bool.eq_false_iff.2 hw)
        clear hw
        go_wp2_with fail
        refine (rwell_any _ h _ HR.out HS.out).mono ?_
        rintro e w3 ⟨rfl, hb⟩
        replace HR := Lib.hid (HR.out.on hb)
        replace HO := Lib.hid (HO.out.keep hb)
        replace KW := Lib.hid (KW.out.trans (hb.mono KW.out.size))
        clear hb
        rw [HW.out]
        go_wp2_with fail
        refine (awake_any _).mono ?_
        rintro e w4 ⟨rfl, hb⟩
        replace HR := Lib.hid (HR.out.on hb)
        replace HO := Lib.hid (HO.out.keep hb)
        replace KW := Lib.hid (KW.out.trans (hb.mono KW.out.size))
        clear hb
        go_wp2
        go_ret
        exact ⟨rfl, KW.out⟩
    · have hleni : (30 : Int) < order.length := by omega
      go_wp2_with fail
      refine (awake_any _).mono ?_
      rintro e w1 ⟨rfl, hb⟩
      replace HR := Lib.hid (HR.out.on hb)
      replace HO := Lib.hid (HO.out.keep hb)
      replace KW := Lib.hid (KW.out.trans (hb.mono KW.out.size))
      clear hb
      go_wp2
      go_ret
      exact ⟨rfl, KW.out⟩
  · rw [Bool.eq_false_iff.2 hs] at HSM
    clear hs
    go_wp2_with fail
    refine HSM.out.mono ?_
    rintro e w1 ⟨rfl, rfl⟩
    go_wp2_with fail
    refine (awake_any _).mono ?_
    rintro e w2 ⟨rfl, hb⟩
    have HB := Lib.hid hb
    clear hb
    go_wp2
    go_ret
    exact ⟨rfl, HB.out⟩

set_option maxRecDepth 100000 in
theorem lifted (os : Os) (started : os.Started) (H : Type) (enc : TypeId × Value → H) :
    ReturnsInHanded {} Try.checked os 9 .any (Rows.historyRespectsSpec.pre6 enc Try.prog Try.f9 Rows.historyRespectsRow.domain false) (Rows.historyRespectsSpec.post enc Try.prog Try.f9 false true false false) := by
  refine returnsInHanded_of_change (C := Try.checked) own started (by kernel_rfl) Try.func9
    (ChangeSpec.witness6 (enc := enc) (C := Try.checked) false ⟨#[], #[.slice none 0 0, .slice none 0 0], []⟩ 8 (by kernel_rfl) (by kernel_rfl) (by kernel_rfl) (by kernel_rfl)) ?_
  intro W base args ds gs before hval0 hW hcnd _
  have hval : ∀ (j : Nat) t v, Try.f9.params[j]? = some t → args[j]? = some v → Value.okWide Try.prog W .any base t v := hval0
  have hW' := hW
  obtain ⟨p, q, hA0, hV, rfl, hfz, hnd⟩ := hW
  have hA : DataW.TrodAll enc Try.prog W 0 (fun _ => true) true Try.f9.params.toList args.toList ds p := hA0
  rw [Try.params9] at hA hval
  obtain ⟨v0, vs0, d0, ds0, p0, q0, hargs, rfl, rfl, t0, r0⟩ := trodAll_cons hA
  obtain ⟨v1, vs1, d1, ds1, p1, q1, rfl, rfl, rfl, t1, r1⟩ := trodAll_cons r0
  obtain ⟨rfl, rfl, rfl⟩ := trodAll_nil r1
  obtain rfl : args = #[v0, v1] := by cases args; simp_all
  obtain ⟨rfl, rfl⟩ := trodVars_none hV
  obtain ⟨x0, h0⟩ := open_ops (hval 0 22 v0 rfl rfl) t0
  obtain ⟨x1, h1⟩ := open_ilist (hval 1 37 v1 rfl rfl) t1
  refine (walk v0 v1 x0 x1 W h0 h1).mono fun e W' ⟨he, hb⟩ => ?_
  subst he
  exact ⟨_, rfl, law_post laidOut rfl (fun _ _ => rfl) (by kernel_rfl) Try.underlying4 (by rw [Try.params9]; exact fun t ht => by simp at ht; rcases ht with  rfl | rfl ; all_goals exact ⟨by kernel_rfl, of_decide_eq_true (by kernel_rfl)⟩) hW' hb⟩

theorem over : Rows.historyRespectsRow.holds Try.pinned (OpenSpec.ofChange Rows.historyRespectsSpec) :=
  OpenClaim.holds_of_wide 9 Try.f9 rfl rfl rfl rfl rfl rfl rfl ⟨rfl, rfl, rfl, rfl, rfl⟩ rfl rfl rfl rfl rfl (by kernel_rfl) Try.func9 (by kernel_rfl)
    (of_decide_eq_true (by kernel_rfl)) (by unfold Func.isWrapper; first | (rw [if_pos (by decide +kernel)]; kernel_rfl) | (rw [if_neg (by decide +kernel)]; exact ⟨rfl, rfl⟩))
    (fun os started H enc _ => lifted os started H enc)

theorem proved : Rows.HistoryRespectsSaid := over
end Go.Proofs.Ytnpfalloelmflaa.historyRespects
