/-
  HistoryProject: for all histories and clients the law returns true, and what came in reads behind the call as before. No condition.
-/
import Derived.Test.YtnpfalloelmflaaAt
import Derived.Test.YtnpfalloelmflaaRa
import Derived.Test.YtnpfalloelmflaaHt
import Derived.Test.YtnpfalloelmflaaHr
import Derived.Test.YtnpfalloelmflaaHs
import Derived.Test.YtnpfalloelmflaaHz
import Derived.Test.YtnpfalloelmflaaHq
import Derived.Test.YtnpfalloelmflaaHh
import Derived.Deep.DeepCutAuto
namespace Go.Proofs.Ytnpfalloelmflaa.historyProject
open Go.ChangeShapes Go.WideShapes Go.ChangeAt Go.RowKit

theorem filterMap_get {h : List Opn} {L : List Int} (hb : ∀ z ∈ L, ∃ i : Nat, z = (i : Int) ∧ i < h.length) : (L.filterMap fun i => h[i.toNat]?).length = L.length ∧ ∀ k (hk : k < L.length), (L.filterMap fun i => h[i.toNat]?)[k]? = h[L[k].toNat]? := by
  induction L with
  | nil => exact ⟨rfl, fun k hk => by simp at hk⟩
  | cons a L ih =>
    obtain ⟨i, rfl, hi⟩ := hb a (by simp)
    obtain ⟨h1, h2⟩ := ih fun z hz => hb z (by simp [hz])
    have e : h[(i : Int).toNat]? = some h[i] := by rw [Int.toNat_natCast]; exact List.getElem?_eq_getElem hi
    rw [List.filterMap_cons, e]
    refine ⟨by simp [h1], fun k hk => ?_⟩
    cases k with
    | zero => rw [List.getElem?_cons_zero]; exact e.symm
    | succ k => rw [List.getElem?_cons_succ]; exact h2 k (by simpa using hk)
theorem idx_bd {P : Opn → Bool} {h : List Opn} {k : Nat} (hk : k ≤ h.length) : ∀ z ∈ idxL P h k, ∃ i : Nat, z = (i : Int) ∧ i < h.length := by
  intro z hz
  unfold idxL at hz
  obtain ⟨i, hi, rfl⟩ := List.mem_map.1 hz
  have h1 := List.mem_range.1 (List.mem_filter.1 hi).1
  exact ⟨i, rfl, by omega⟩
/-- Operation number k of a client. -/
theorem mine_at {h : List Opn} {c : Int} {k : Nat} (hk : k < (idxL (mineB c) h h.length).length) : ∃ i : Nat, (idxL (mineB c) h h.length)[k] = (i : Int) ∧ i < h.length ∧ (h.filter (mineB c))[k]? = h[i]? ∧ (h.filter (mineB c)).length = (idxL (mineB c) h h.length).length := by
  obtain ⟨i, h1, h2⟩ := idx_bd (Nat.le_refl h.length) _ (List.getElem_mem hk)
  have h3 := filterMap_get (idx_bd (P := mineB c) (Nat.le_refl h.length))
  rw [idxL_filter] at h3
  exact ⟨i, h1, h2, by rw [h3.2 k hk, h1, Int.toNat_natCast], h3.1⟩

set_option maxRecDepth 100000 in
set_option maxHeartbeats 8000000 in
theorem walk (v : Value) (h : List Opn) (c : Int) (W : World) (hr : ReadsO W v h) : Calls Try.prog 10 #[v, .int .i64 c] W (BoolMade W true) := by
  have HR := Lib.hid hr
  have HSM := Lib.hid (rsmall_any v h 20 W hr)
  obtain ⟨ao, cap, rfl, hl, hm, -, -⟩ := hr
  unfold maxLen at hm
  go_enter Try.func10, Try.ntmps10
  by_cases hs : smallB h 20 = true
  · have HS := Lib.hid (SmallH.of (by decide) hs)
    have hn := HS.out.1
    rw [hs] at HSM
    clear hs
    go_wp2_with fail
    refine (HSM.out).mono ?_
    rintro e W ⟨rfl, rfl⟩
    go_wp2
    go_loopg [5, 6, 7] h.length (fun m mv ov i wr => ∃ k : Nat, m + k = h.length ∧ i = .int .i64 k ∧ wr.ownsRow W.heap.size 3 1 mv (idxL (mineB c) h k).length ((idxL (mineB c) h k).map vi) ∧ wr.ownsRow W.heap.size 3 1 ov (idxL pendB h k).length ((idxL pendB h k).map vi) ∧ Apart mv ov ∧ Below W.heap.size W wr)
    case atStart => exact ⟨0, by omega, rfl, (World.ownsRow_made W #[] 0 (Nat.le_refl _) (Nat.zero_le _) rfl).alloc _, by have h0 := World.ownsRow_made (e := 3) (size := 1) (base := W.heap.size) (W.alloc (.cells #[] 3)) #[] 0 (by simp) (Nat.zero_le _) rfl; rw [World.size_alloc] at h0; exact h0, fun k h1 h2 => by simp [Value.ownBlock] at h1 h2; omega, below_two W _ _⟩
    case round =>
      obtain ⟨k, hmk, rfl, hmi, hop, hap, hbel⟩ := hrel
      have HM := Lib.hid hmk
      have H5 := Lib.hid hmi
      have H6 := Lib.hid hop
      have HAP := Lib.hid hap
      have KW := Lib.hid hbel
      have hk : k ≤ h.length := by omega
      have l5 := idx_len (mineB c) h k
      have l6 := idx_len pendB h k
      clear hmk hmi hop hap hbel
      by_cases hlt : k < h.length
      · obtain ⟨b, off, cap1, a4, c4, a5, c5, hv, _, _, hm4, hm5, hl4, hl5, hcell, r1, r2⟩ := HR.out.at2 hlt
        injection hv with e1 e2 e3
        subst e1
        have hki : (k : Int) < h.length := by omega
        have hk0 : (0 : Int) ≤ (k : Int) := by omega
        have HCL := Lib.hid hcell
        have HY1 := Lib.hid (@idx_in (mineB c) h k hlt)
        have HN1 := Lib.hid (@idx_out (mineB c) h k hlt)
        have HY2 := Lib.hid (@idx_in pendB h k hlt)
        have HN2 := Lib.hid (@idx_out pendB h k hlt)
        have dd := Lib.hid (hcell wr KW.out)
        have x0 := dd.out.1
        have x3 := dd.out.2.2.2.1
        clear e2 e3 hcell r1 r2 dd
        generalize h[k] = x at *
        generalize hM : idxL (mineB c) h k = M at *
        generalize hP : idxL pendB h k = P at *
        have HMP := Lib.hid (And.intro hM hP)
        clear hM hP
        by_cases c1 : cliO x = c
        · have E1 : Hid (idxL (mineB c) h (k + 1) = M ++ [(k : Int)]) := Lib.hid (HY1.out (decide_eq_true c1))
          have t1 := beq_t c1
          have HBX : Hid (Below wr.heap.size wr (wr.alloc (.cells #[.int .i64 (k : Int)] 3))) := Lib.hid ((Below.refl _ _).alloc (Nat.le_refl _) _)
          clear c1 HY1 HN1
          go_wp2_with (at_builtin; refine appendi_at rfl (.tmp 32) (.tmp 34) rfl W.heap.size _ (.slice (some ⟨wr.heap.size, 0, none⟩) 1 1) M.length M [(k : Int)] rfl (below_row H5.out HBX.out) rfl (one_reads wr (k : Int)) (by simp; omega) (Nat.le_trans KW.out.size HBX.out.size) ?_)
          intro v8 w8 hown8 hgr8 hat8
          have K8 := Lib.hid (below_row_grown KW.out HBX.out H5.out hgr8)
          have H58 : Hid (w8.ownsRow W.heap.size 3 1 v8 (M ++ [(k : Int)]).length ((M ++ [(k : Int)]).map vi)) := Lib.hid (by rw [List.length_append, List.map_append]; exact hown8)
          have H68 := Lib.hid ((below_row H6.out HBX.out).kept hgr8 (Apart.ne HAP.out))
          have HAP8 := Lib.hid (Apart.new HAP.out H6.out (Nat.le_succ _) hat8)
          clear hown8 hgr8 hat8 H6 H5 HAP x0 x3 t1
          have H5 := H58
          have H6 := H68
          have HAP := HAP8
          have dd := Lib.hid (HCL.out w8 K8.out)
          have x3 := dd.out.2.2.2.1
          clear H58 H68 HAP8 dd
          by_cases c2 : endO x = -1
          · have E2 : Hid (idxL pendB h (k + 1) = P ++ [(k : Int)]) := Lib.hid (HY2.out (decide_eq_true c2))
            have t2 := beq_t c2
            have HBY : Hid (Below w8.heap.size w8 (w8.alloc (.cells #[.int .i64 (k : Int)] 3))) := Lib.hid ((Below.refl _ _).alloc (Nat.le_refl _) _)
            clear c2 HY2 HN2
            go_wp2_with (at_builtin; refine appendi_at rfl (.tmp 42) (.tmp 44) rfl W.heap.size _ (.slice (some ⟨w8.heap.size, 0, none⟩) 1 1) P.length P [(k : Int)] rfl (below_row H6.out HBY.out) rfl (one_reads w8 (k : Int)) (by simp; omega) (Nat.le_trans K8.out.size HBY.out.size) ?_)
            intro v9 w9 hown9 hgr9 hat9
            have K9 := Lib.hid (below_row_grown K8.out HBY.out H6.out hgr9)
            have H69 : Hid (w9.ownsRow W.heap.size 3 1 v9 (idxL pendB h (k + 1)).length ((idxL pendB h (k + 1)).map vi)) := Lib.hid (by rw [E2.out, List.length_append, List.map_append]; exact hown9)
            have H59 := Lib.hid ((below_row H5.out HBY.out).kept hgr9 (Apart.ne (Apart.symm HAP.out)))
            have HAP9 := Lib.hid (Apart.symm (Apart.new (Apart.symm HAP.out) H5.out (Nat.le_succ _) hat9))
            clear hown9 hgr9 hat9 H6 H5
            go_wp2
            go_roundg (h.length - (k + 1))
            case measure => have := HM.out; omega
            case rel => exact ⟨k + 1, by omega, by go_num, by rw [E1.out]; exact H59.out, H69.out, HAP9.out, K9.out⟩
          · have E2 : Hid (idxL pendB h (k + 1) = P) := Lib.hid (HN2.out (decide_eq_false c2))
            have t2 := beq_f c2
            clear c2 HY2 HN2
            go_wp2
            go_roundg (h.length - (k + 1))
            case measure => have := HM.out; omega
            case rel => exact ⟨k + 1, by omega, by go_num, by rw [E1.out]; exact H5.out, by rw [E2.out]; exact H6.out, HAP.out, K8.out⟩
        · have E1 : Hid (idxL (mineB c) h (k + 1) = M) := Lib.hid (HN1.out (decide_eq_false c1))
          have t1 := beq_f c1
          clear c1 HY1 HN1
          by_cases c2 : endO x = -1
          · have E2 : Hid (idxL pendB h (k + 1) = P ++ [(k : Int)]) := Lib.hid (HY2.out (decide_eq_true c2))
            have t2 := beq_t c2
            have HBY : Hid (Below wr.heap.size wr (wr.alloc (.cells #[.int .i64 (k : Int)] 3))) := Lib.hid ((Below.refl _ _).alloc (Nat.le_refl _) _)
            clear c2 HY2 HN2
            go_wp2_with (at_builtin; refine appendi_at rfl (.tmp 42) (.tmp 44) rfl W.heap.size _ (.slice (some ⟨wr.heap.size, 0, none⟩) 1 1) P.length P [(k : Int)] rfl (below_row H6.out HBY.out) rfl (one_reads wr (k : Int)) (by simp; omega) (Nat.le_trans KW.out.size HBY.out.size) ?_)
            intro v9 w9 hown9 hgr9 hat9
            have K9 := Lib.hid (below_row_grown KW.out HBY.out H6.out hgr9)
            have H69 : Hid (w9.ownsRow W.heap.size 3 1 v9 (idxL pendB h (k + 1)).length ((idxL pendB h (k + 1)).map vi)) := Lib.hid (by rw [E2.out, List.length_append, List.map_append]; exact hown9)
            have H59 := Lib.hid ((below_row H5.out HBY.out).kept hgr9 (Apart.ne (Apart.symm HAP.out)))
            have HAP9 := Lib.hid (Apart.symm (Apart.new (Apart.symm HAP.out) H5.out (Nat.le_succ _) hat9))
            clear hown9 hgr9 hat9 H6 H5
            go_wp2
            go_roundg (h.length - (k + 1))
            case measure => have := HM.out; omega
            case rel => exact ⟨k + 1, by omega, by go_num, by rw [E1.out]; exact H59.out, H69.out, HAP9.out, K9.out⟩
          · have E2 : Hid (idxL pendB h (k + 1) = P) := Lib.hid (HN2.out (decide_eq_false c2))
            have t2 := beq_f c2
            clear c2 HY2 HN2
            go_wp2
            go_roundg (h.length - (k + 1))
            case measure => have := HM.out; omega
            case rel => exact ⟨k + 1, by omega, by go_num, by rw [E1.out]; exact H5.out, by rw [E2.out]; exact H6.out, HAP.out, KW.out⟩
      · have hkk : k = h.length := by omega
        subst hkk
        clear HM
        have HR2 := Lib.hid (HR.out.on KW.out)
        have R5 := Lib.hid (Reads.of_owns H5.out)
        have R6 := Lib.hid (Reads.of_owns H6.out)
        clear H5 H6 HAP
        go_wp2_with fail
        refine (project_any _ h c _ HR2.out HS.out.1).mono ?_
        rintro e w1 ⟨p, rfl, hp, hb⟩
        replace HR2 := Lib.hid (HR2.out.on hb)
        replace KW := Lib.hid (KW.out.trans (hb.mono KW.out.size))
        replace R5 := Lib.hid (R5.out.keep hb)
        replace R6 := Lib.hid (R6.out.keep hb)
        have HP1 := Lib.hid (hp)
        clear hb hp
        go_wp2_with fail
        refine (same06_any p u5 _ _ _ HP1.out R5.out).mono ?_
        rintro e w2 ⟨rfl, hd⟩
        replace HR2 := Lib.hid (HR2.out.on (hd.below))
        replace KW := Lib.hid (KW.out.trans ((hd.below).mono KW.out.size))
        replace R5 := Lib.hid (R5.out.keep (hd.below))
        replace R6 := Lib.hid (R6.out.keep (hd.below))
        replace HP1 := Lib.hid (HP1.out.keep (hd.below))
        clear hd
        rw [decide_eq_true rfl]
        go_wp2_with fail
        refine (pending_any _ h _ HR2.out HS.out.1).mono ?_
        rintro e w3 ⟨p2, rfl, hp, hb⟩
        replace HR2 := Lib.hid (HR2.out.on hb)
        replace KW := Lib.hid (KW.out.trans (hb.mono KW.out.size))
        replace R5 := Lib.hid (R5.out.keep hb)
        replace R6 := Lib.hid (R6.out.keep hb)
        replace HP1 := Lib.hid (HP1.out.keep hb)
        have HP2 := Lib.hid (hp)
        clear hb hp
        go_wp2_with fail
        refine (same06_any p2 u6 _ _ _ HP2.out R6.out).mono ?_
        rintro e w4 ⟨rfl, hd⟩
        replace HR2 := Lib.hid (HR2.out.on (hd.below))
        replace KW := Lib.hid (KW.out.trans ((hd.below).mono KW.out.size))
        replace R5 := Lib.hid (R5.out.keep (hd.below))
        replace R6 := Lib.hid (R6.out.keep (hd.below))
        replace HP1 := Lib.hid (HP1.out.keep (hd.below))
        replace HP2 := Lib.hid (HP2.out.keep (hd.below))
        clear hd
        rw [decide_eq_true rfl]
        have HC := Lib.hid (check_any _ h w4 HR2.out HS.out)
        by_cases hw : wellB h = true
        · have HWL := Lib.hid (well_of hw)
          have HCP := Lib.hid (chk_pair (of_decide_eq_true hw))
          have HW := Lib.hid hw
          clear hw
          go_wp2_with fail
          refine (chk_as HCP.out HC.out).mono ?_
          rintro e w5 ⟨rfl, hb⟩
          replace HR2 := Lib.hid (HR2.out.on hb)
          replace KW := Lib.hid (KW.out.trans (hb.mono KW.out.size))
          replace R5 := Lib.hid (R5.out.keep hb)
          replace R6 := Lib.hid (R6.out.keep hb)
          replace HP1 := Lib.hid (HP1.out.keep hb)
          replace HP2 := Lib.hid (HP2.out.keep hb)
          clear hb
          clear HC
          obtain ⟨a5, k5, hv5, hlc5, hcm5, -, -⟩ := R5.out
          subst hv5
          unfold maxLen at hcm5
          go_wp2
          obtain ⟨wb, hwb⟩ : ∃ x, x = w5 := ⟨_, rfl⟩
          rw [← hwb] at HR2 KW R5 R6 HP1 HP2 ⊢
          clear hwb
          have HBW := Lib.hid (Below.refl wb.heap.size wb)
          obtain ⟨G1, hG1⟩ : ∃ G, G = gk := ⟨_, rfl⟩
          subst hG1
          go_loopg [11, 12] (idxL (mineB c) h h.length).length (fun m ow i wr => ∃ q : Nat, m + q = (idxL (mineB c) h h.length).length ∧ i = .int .i64 q ∧ OwnE (fun _ cs o => OpE wb cs o) wb wr ow ((h.filter (mineB c)).take q))
          case atStart => exact ⟨0, by omega, rfl, (Below.refl _ _).alloc (Nat.le_refl _) _, [], World.ownsRow_made wb #[] 0 (Nat.le_refl _) (Nat.zero_le _) rfl, fun k h => by simp at h⟩
          case round =>
            obtain ⟨q, hmq, rfl, hown⟩ := hrel
            have HM := Lib.hid hmq
            have HO := Lib.hid hown
            have KB := Lib.hid hown.1
            have hq : q ≤ (idxL (mineB c) h h.length).length := by omega
            have HAT := Lib.hid (fun hk => @mine_at h c q hk)
            have HLA := Lib.hid (fun (i : Nat) hi => @mine_last h c HWL.out i hi)
            clear hmq hown
            by_cases hql : q < (idxL (mineB c) h h.length).length
            · obtain ⟨i, hi1, hi2, hi3, hi4⟩ := HAT.out hql
              have hqi : (q : Int) < (idxL (mineB c) h h.length).length := by omega
              have hq0 : (0 : Int) ≤ (q : Int) := by omega
              obtain ⟨bo, oo, co, hv, hbo, hco⟩ := int_at R5.out hql
              injection hv with e1 e2 e3
              subst e1
              have q0 : wr.cell? ⟨bo, oo + q, none⟩ = some (.int .i64 (i : Int)) := (KB.out.cell (p := ⟨bo, oo + q, none⟩) hbo).trans (by rw [hco, hi1]; rfl)
              obtain ⟨b, off, cap1, a4, c4, a5, c5, hv, _, _, hm4, hm5, hl4, hl5, hcell, r1, r2⟩ := HR2.out.at2 hi2
              injection hv with e4 e5 e6
              subst e4
              have hii : (i : Int) < h.length := by omega
              have hi0 : (0 : Int) ≤ (i : Int) := by omega
              have HTK : Hid ((h.filter (mineB c)).take (q + 1) = (h.filter (mineB c)).take q ++ [h[i]]) := Lib.hid (by
                rw [List.take_add_one, hi3, List.getElem?_eq_getElem hi2]; rfl)
              have HEN : Hid (q + 1 < (idxL (mineB c) h h.length).length → ¬ endO h[i] = -1) := Lib.hid fun h1 => by
                have h2 := HLA.out q (by rw [hi4]; exact h1)
                have h3 : (h.filter (mineB c))[q]'(by rw [hi4]; omega) = h[i] := by
                  have h4 := hi3
                  rw [List.getElem?_eq_getElem (by rw [hi4]; omega), List.getElem?_eq_getElem hi2] at h4
                  exact Option.some.inj h4
                rwa [h3] at h2
              have HCL := Lib.hid hcell
              have HN := Lib.hid (And.intro r1 r2)
              have HBO := Lib.hid (And.intro hbo hco)
              have HI1 := Lib.hid hi1
              have dd := Lib.hid (hcell wr KB.out)
              have x0 := dd.out.1
              have x1 := dd.out.2.1
              have x2 := dd.out.2.2.1
              have x3 := dd.out.2.2.2.1
              have x4 := dd.out.2.2.2.2.1
              have x5 := dd.out.2.2.2.2.2
              clear e2 e3 e5 e6 hcell r1 r2 dd hbo hco hi1 hi3 hi4 HAT HLA
              generalize h[i] = x at *
              have htl : ((h.filter (mineB c)).take q).length ≤ 1000 := by
                have h1 : ((h.filter (mineB c)).take q).length ≤ (h.filter (mineB c)).length := List.length_take_le' _ _
                have h2 : (h.filter (mineB c)).length ≤ h.length := List.length_filter_le _ _
                omega
              generalize hL : (h.filter (mineB c)).take q = L at *
              have HL := Lib.hid hL
              clear hL
              have HO4 := Lib.hid (fun o1 => OwnE.later (stableW wb wb) HO.out ((Below.refl wr.heap.size wr).alloc (Nat.le_refl _) o1))
              have HBK : Hid (∀ Z, Blk (wr.alloc (.cells Z 31)) wr.heap.size 31 Z) := Lib.hid fun Z => Blk.new wr 31 Z
              have HE : Hid (OpE wb [.int .i64 (cliO x), .int .i64 (kindO x), .int .i64 (begO x), .int .i64 (endO x), .slice a4 (addO x).length c4, .slice a5 (seeO x).length c5] x) := Lib.hid ⟨_, _, rfl, HN.out.1, HN.out.2⟩
              go_wp2_with (at_builtin; refine append_op (stableW wb wb) rfl (.tmp 80) (.tmp 88) rfl _ L x [.int .i64 (cliO x), .int .i64 (kindO x), .int .i64 (begO x), .int .i64 (endO x), .slice a4 (addO x).length c4, .slice a5 (seeO x).length c5] wr.heap.size rfl (HO4.out _) rfl (HBK.out _) HE.out (by omega) ?_)
              intro v6 w6 hown6
              have H6 := Lib.hid hown6
              clear hown6 x0 x1 x2 x3 x4 x5 q0 HO4 HBK
              have dd := Lib.hid (HCL.out w6 H6.out.1)
              have x3 := dd.out.2.2.2.1
              have q0 : w6.cell? ⟨bo, oo + q, none⟩ = some (.int .i64 (i : Int)) := (H6.out.1.cell (p := ⟨bo, oo + q, none⟩) HBO.out.1).trans (by rw [HBO.out.2, HI1.out]; rfl)
              clear dd
              by_cases hnx : q + 1 < (idxL (mineB c) h h.length).length
              · have hnxi : (q : Int) + 1 < (idxL (mineB c) h h.length).length := by omega
                have t3 := beq_f (HEN.out hnx)
                clear hnx
                go_wp2
                go_roundg ((idxL (mineB c) h h.length).length - (q + 1))
                case measure => have := HM.out; omega
                case rel => exact ⟨q + 1, by omega, by go_num, by rw [HTK.out]; exact H6.out⟩
              · have hnxi : ¬ (q : Int) + 1 < (idxL (mineB c) h h.length).length := by omega
                clear hnx
                go_wp2
                go_roundg ((idxL (mineB c) h h.length).length - (q + 1))
                case measure => have := HM.out; omega
                case rel => exact ⟨q + 1, by omega, by go_num, by rw [HTK.out]; exact H6.out⟩
            · have HRW : Hid (ReadsO wr u11 (h.filter (mineB c))) := Lib.hid (by
                have h0 := HO.out
                have h1 : (h.filter (mineB c)).length ≤ q := by
                  have h3 := (filterMap_get (idx_bd (P := mineB c) (Nat.le_refl h.length))).1
                  rw [idxL_filter] at h3
                  omega
                rw [List.take_of_length_le h1] at h0
                exact h0.reads fun cs o hq => keepsOp _ _ _ _ KB.out hq)
              have HSQ := Lib.hid (mine_seq (c := c) HWL.out)
              have hfl : (h.filter (mineB c)).length ≤ 1000 := Nat.le_trans (List.length_filter_le _ _) hn
              replace KW := Lib.hid (KW.out.trans (KB.out.mono KW.out.size))
              have HR3 := Lib.hid (HR2.out.on KB.out)
              clear HO KB HAT HLA
              go_wp2_with fail
              refine (awake_any _).mono ?_
              rintro e w1 ⟨rfl, hb⟩
              replace HR3 := Lib.hid (HR3.out.on hb)
              replace HRW := Lib.hid (HRW.out.on hb)
              replace KW := Lib.hid (KW.out.trans (hb.mono KW.out.size))
              clear hb
              go_wp2_with fail
              refine (rwell_any _ h _ HR3.out HS.out).mono ?_
              rintro e w2 ⟨rfl, hb⟩
              replace HR3 := Lib.hid (HR3.out.on hb)
              replace HRW := Lib.hid (HRW.out.on hb)
              replace KW := Lib.hid (KW.out.trans (hb.mono KW.out.size))
              clear hb
              rw [HW.out]
              go_wp2_with fail
              refine (sequential_any u11 (h.filter (mineB c)) _ HRW.out hfl).mono ?_
              rintro e w3 ⟨rfl, hb⟩
              replace HR3 := Lib.hid (HR3.out.on hb)
              replace HRW := Lib.hid (HRW.out.on hb)
              replace KW := Lib.hid (KW.out.trans (hb.mono KW.out.size))
              clear hb
              rw [HSQ.out]
              go_wp2
              go_ret
              exact ⟨rfl, KW.out⟩
        · have HNZ := Lib.hid (fun e => hw (decide_eq_true e))
          have HW := Lib.hid (Bool.eq_false_iff.2 hw)
          clear hw
          have HC2 : Hid (∃ i e, chkL h = (i, e) ∧ ¬ e = 0) := Lib.hid ⟨_, _, rfl, HNZ.out⟩
          obtain ⟨ci, ce, hci, hce⟩ := HC2.out
          have HCI := Lib.hid hci
          have te := bne_t hce
          clear hci hce HNZ HC2
          go_wp2_with fail
          refine (chk_as HCI.out HC.out).mono ?_
          rintro e w5 ⟨rfl, hb⟩
          replace HR2 := Lib.hid (HR2.out.on hb)
          replace KW := Lib.hid (KW.out.trans (hb.mono KW.out.size))
          replace R5 := Lib.hid (R5.out.keep hb)
          replace R6 := Lib.hid (R6.out.keep hb)
          replace HP1 := Lib.hid (HP1.out.keep hb)
          replace HP2 := Lib.hid (HP2.out.keep hb)
          clear hb
          go_wp2_with fail
          refine (awake_any _).mono ?_
          rintro e w6 ⟨rfl, hb⟩
          replace HR2 := Lib.hid (HR2.out.on hb)
          replace KW := Lib.hid (KW.out.trans (hb.mono KW.out.size))
          replace R5 := Lib.hid (R5.out.keep hb)
          replace R6 := Lib.hid (R6.out.keep hb)
          replace HP1 := Lib.hid (HP1.out.keep hb)
          replace HP2 := Lib.hid (HP2.out.keep hb)
          clear hb
          go_wp2_with fail
          refine (rwell_any _ h _ HR2.out HS.out).mono ?_
          rintro e w7 ⟨rfl, hb⟩
          replace HR2 := Lib.hid (HR2.out.on hb)
          replace KW := Lib.hid (KW.out.trans (hb.mono KW.out.size))
          replace R5 := Lib.hid (R5.out.keep hb)
          replace R6 := Lib.hid (R6.out.keep hb)
          replace HP1 := Lib.hid (HP1.out.keep hb)
          replace HP2 := Lib.hid (HP2.out.keep hb)
          clear hb
          rw [HW.out]
          go_wp2
          go_ret
          exact ⟨rfl, KW.out⟩
  · rw [Bool.eq_false_iff.2 hs] at HSM
    clear hs
    go_wp2_with fail
    refine HSM.out.mono ?_
    rintro e w1 ⟨rfl, rfl⟩
    go_wp2_with fail
    refine (awake_any _).mono ?_
    rintro e w2 ⟨rfl, hb⟩
    have HB := Lib.hid hb
    clear hb
    go_wp2
    go_ret
    exact ⟨rfl, HB.out⟩

set_option maxRecDepth 100000 in
theorem lifted (os : Os) (started : os.Started) (H : Type) (enc : TypeId × Value → H) :
    ReturnsInHanded {} Try.checked os 10 .any (Rows.historyProjectSpec.pre6 enc Try.prog Try.f10 Rows.historyProjectRow.domain false) (Rows.historyProjectSpec.post enc Try.prog Try.f10 false true false false) := by
  refine returnsInHanded_of_change (C := Try.checked) own started (by kernel_rfl) Try.func10
    (ChangeSpec.witness6 (enc := enc) (C := Try.checked) false ⟨#[], #[.slice none 0 0, .int .i64 0], []⟩ 8 (by kernel_rfl) (by kernel_rfl) (by kernel_rfl) (by kernel_rfl)) ?_
  intro W base args ds gs before hval0 hW hcnd _
  have hval : ∀ (j : Nat) t v, Try.f10.params[j]? = some t → args[j]? = some v → Value.okWide Try.prog W .any base t v := hval0
  have hW' := hW
  obtain ⟨p, q, hA0, hV, rfl, hfz, hnd⟩ := hW
  have hA : DataW.TrodAll enc Try.prog W 0 (fun _ => true) true Try.f10.params.toList args.toList ds p := hA0
  rw [Try.params10] at hA hval
  obtain ⟨v0, vs0, d0, ds0, p0, q0, hargs, rfl, rfl, t0, r0⟩ := trodAll_cons hA
  obtain ⟨v1, vs1, d1, ds1, p1, q1, rfl, rfl, rfl, t1, r1⟩ := trodAll_cons r0
  obtain ⟨rfl, rfl, rfl⟩ := trodAll_nil r1
  obtain rfl : args = #[v0, v1] := by cases args; simp_all
  obtain ⟨rfl, rfl⟩ := trodVars_none hV
  obtain ⟨x0, h0⟩ := open_ops (hval 0 22 v0 rfl rfl) t0
  obtain ⟨x1, rfl, _, _, w1⟩ := open_int Try.underlying3 (hval 1 3 v1 rfl rfl) t1
  refine (walk v0 x0 x1 W h0).mono fun e W' ⟨he, hb⟩ => ?_
  subst he
  exact ⟨_, rfl, law_post laidOut rfl (fun _ _ => rfl) (by kernel_rfl) Try.underlying4 (by rw [Try.params10]; exact fun t ht => by simp at ht; rcases ht with  rfl | rfl ; all_goals exact ⟨by kernel_rfl, of_decide_eq_true (by kernel_rfl)⟩) hW' hb⟩

theorem over : Rows.historyProjectRow.holds Try.pinned (OpenSpec.ofChange Rows.historyProjectSpec) :=
  OpenClaim.holds_of_wide 10 Try.f10 rfl rfl rfl rfl rfl rfl rfl ⟨rfl, rfl, rfl, rfl, rfl⟩ rfl rfl rfl rfl rfl (by kernel_rfl) Try.func10 (by kernel_rfl)
    (of_decide_eq_true (by kernel_rfl)) (by unfold Func.isWrapper; first | (rw [if_pos (by decide +kernel)]; kernel_rfl) | (rw [if_neg (by decide +kernel)]; exact ⟨rfl, rfl⟩))
    (fun os started H enc _ => lifted os started H enc)

theorem proved : Rows.HistoryProjectSaid := over
end Go.Proofs.Ytnpfalloelmflaa.historyProject
