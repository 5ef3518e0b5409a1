/-
  Chapter 54: the reference's Legal.
-/
import Derived.Test.YtnpfalloelmflaaPm
import Derived.Test.YtnpfalloelmflaaIx
import Derived.Test.YtnpfalloelmflaaAp
namespace Go.Proofs.Ytnpfalloelmflaa
open Go.RowKit

theorem legB_ind {h : List Opn} {order : List Int} (hi : indB h.length order = false) : legB h order = false := by
  cases hq : legB h order with
  | false => rfl
  | true =>
    obtain ⟨h1, h2⟩ := leg_ind hq
    have : indB h.length order = true := decide_eq_true ⟨fun i hm => ⟨(h1 i hm).1, (h1 i hm).2.1⟩, h2⟩
    rw [this] at hi; cases hi
theorem Blk.grown {w w' : World} {g : Nat} {t : TypeId} {cs : Array Value} {row : Option Nat} (h : Blk w g t cs) (hg : w.grownBy w' row) (hne : row ≠ some g) : Blk w' g t cs := (hg.block g h.lt fun e => hne e.symm).trans h

set_option maxRecDepth 100000 in
set_option maxHeartbeats 8000000 in
theorem rlegal_any (v u : Value) (h : List Opn) (order : List Int) (W : World) (hr : ReadsO W v h) (ho : Reads vi W u order) (hs : SmallH h) (hor : order.length ≤ 1000) : Calls Try.prog 21 #[v, u] W (BoolMade W (legB h order)) := by
  have HR := Lib.hid hr
  have HO := Lib.hid ho
  have HS := Lib.hid hs
  have hn := hs.1
  have HIND := Lib.hid (rindices_any h.length u order W (by omega) ho)
  have HLI := Lib.hid (@legB_ind h order)
  have HL0 : Hid (legB h order = legFrom h order [] []) := Lib.hid rfl
  generalize legB h order = lb at *
  obtain ⟨ao, cap, rfl, hl, hm, -, -⟩ := hr
  obtain ⟨ao2, cap2, rfl, hl2, hm2, -, -⟩ := ho
  unfold maxLen at hm hm2
  clear hs
  go_enter Try.func21, Try.ntmps21
  by_cases hind : indB h.length order = true
  · have HIX : Hid (∀ k (hk : k < order.length), ∃ q : Nat, order[k] = (q : Int) ∧ q < h.length ∧ (q : Int) ∉ order.take k) := Lib.hid fun k hk => by
      have h0 := of_decide_eq_true hind
      have h1 := h0.1 _ (List.getElem_mem hk)
      refine ⟨order[k].toNat, by omega, by omega, fun h2 => ?_⟩
      obtain ⟨j, hj, he⟩ := List.mem_take_iff_getElem.1 h2
      have h3 := List.pairwise_iff_getElem.1 (List.nodup_iff_pairwise_ne.1 h0.2) j k (by omega) hk (by omega)
      exact h3 (by omega)
    rw [hind] at HIND
    clear hind HLI
    go_wp2_with fail
    refine HIND.out.mono ?_
    rintro e w1 ⟨rfl, hb1⟩
    have KW1 := Lib.hid hb1
    clear hb1
    go_wp2
    go_loopg [5, 6] order.length (fun m s i wr => ∃ (k : Nat) (S : List Str), m + k = order.length ∧ i = .int .i64 k ∧ lb = legFrom h (order.drop k) (order.take k) S ∧ S.length ≤ 1000 * k ∧ wr.ownsRow W.heap.size 9 1 s S.length (S.map vs) ∧ Below W.heap.size W wr)
    case atStart => exact ⟨0, [], by omega, rfl, HL0.out, by simp, World.ownsRow_made w1 #[] 0 KW1.out.size (Nat.zero_le _) rfl, KW1.out.alloc KW1.out.size _⟩
    case round =>
      obtain ⟨k, S, hmk, rfl, hleg, hSl, hown, hbel⟩ := hrel
      have HM := Lib.hid hmk
      have HLEG := Lib.hid hleg
      have HOW := Lib.hid hown
      have KW := Lib.hid hbel
      have hk : k ≤ order.length := by omega
      clear hmk hleg hown hbel KW1
      by_cases hlt : k < order.length
      · obtain ⟨q, hq1, hq2, hq3⟩ := HIX.out k hlt
        obtain ⟨bo, oo, co, hv, hbo, hco⟩ := int_at HO.out hlt
        injection hv with e1 e2 e3
        subst e1
        have hki : (k : Int) < order.length := by omega
        have hk0 : (0 : Int) ≤ (k : Int) := by omega
        have q0 : wr.cell? ⟨bo, oo + k, none⟩ = some (.int .i64 (q : Int)) := (KW.out.cell (p := ⟨bo, oo + k, none⟩) hbo).trans (by rw [hco, hq1]; rfl)
        have HLG : Hid (lb = legFrom h ((q : Int) :: order.drop (k + 1)) (order.take k) S) := Lib.hid (by rw [HLEG.out, List.drop_eq_getElem_cons hlt, hq1])
        have HLO := Lib.hid (HLG.out.trans (legFrom_ok hq2 hq3))
        have HTK : Hid (order.take (k + 1) = order.take k ++ [(q : Int)]) := Lib.hid (by rw [List.take_succ_eq_append_getElem hlt, hq1])
        clear e2 e3 hco HLEG HLG hq1 hq3 hbo
        have hqi : (q : Int) < h.length := by omega
        have hq0' : (0 : Int) ≤ (q : Int) := by omega
        obtain ⟨b, off, cap1, a4, c4, a5, c5, hv, _, _, hm4, hm5, hl4, hl5, hcell, r1, r2⟩ := HR.out.at2 hq2
        injection hv with e1 e2 e3
        subst e1
        have hsm := HS.out.2 _ (List.getElem_mem hq2)
        have hla := hsm.1
        have hls := hsm.2.1
        have HN := Lib.hid (And.intro r1 r2)
        have dd := Lib.hid (hcell wr KW.out)
        clear e2 e3 hcell r1 r2 hsm
        generalize h[q] = x at *
        have d0 := dd.out.1
        have d1 := dd.out.2.1
        have d2 := dd.out.2.2.1
        have d3 := dd.out.2.2.2.1
        have d4 := dd.out.2.2.2.2.1
        have d5 := dd.out.2.2.2.2.2
        have HBX : Hid (Blk (wr.alloc (.cells #[.int .i64 (cliO x), .int .i64 (kindO x), .int .i64 (begO x), .int .i64 (endO x), .slice a4 (addO x).length c4, .slice a5 (seeO x).length c5] 31)) wr.heap.size 31 #[.int .i64 (cliO x), .int .i64 (kindO x), .int .i64 (begO x), .int .i64 (endO x), .slice a4 (addO x).length c4, .slice a5 (seeO x).length c5] ∧ Below wr.heap.size wr (wr.alloc (.cells #[.int .i64 (cliO x), .int .i64 (kindO x), .int .i64 (begO x), .int .i64 (endO x), .slice a4 (addO x).length c4, .slice a5 (seeO x).length c5] 31))) := Lib.hid ⟨Blk.new _ _ _, (Below.refl _ _).alloc (Nat.le_refl _) _⟩
        by_cases hk1 : kindO x = 1
        · have e1 := beq_t hk1
          have e2 := beq_f (show ¬ kindO x = 2 by omega)
          have HL1 : Hid (lb = legFrom h (order.drop (k + 1)) (order.take (k + 1)) (S ++ addO x)) := Lib.hid (by rw [HLO.out, if_pos hk1, HTK.out])
          clear hk1 HLO HTK
          go_wp2_with (at_builtin; refine append_reads rfl (.tmp 30) (.tmp 32) rfl W.heap.size _ (.slice a4 (addO x).length c4) S.length S (addO x) rfl (below_row HOW.out HBX.out.2) rfl ((HN.out.1.keep KW.out).keep HBX.out.2) (by omega) (Nat.le_trans KW.out.size HBX.out.2.size) ?_)
          intro v3 w3 hown3 hgr3
          have KB : Hid (Blk w3 wr.heap.size 31 #[.int .i64 (cliO x), .int .i64 (kindO x), .int .i64 (begO x), .int .i64 (endO x), .slice a4 (addO x).length c4, .slice a5 (seeO x).length c5]) := Lib.hid (HBX.out.1.grown hgr3 (fun e => by have := (HOW.out.lt _ e).2; omega))
          have KW3 := Lib.hid (below_row_grown KW.out HBX.out.2 HOW.out hgr3)
          have HOW3 : Hid (w3.ownsRow W.heap.size 9 1 v3 (S ++ addO x).length ((S ++ addO x).map vs)) := Lib.hid (by rw [List.length_append, List.map_append]; exact hown3)
          clear hown3 hgr3 HOW KW HBX d0 d1 d2 d3 d4 d5 dd q0
          have KW := KW3
          have HOW := HOW3
          clear KW3 HOW3
          generalize wr.heap.size = gb at *
          go_wp2_with fail
          refine region_left [.is (.pointer (some ⟨gb, 1, none⟩)), .is (.int .i64 (kindO x)), .is (.bool false), .is (.bool false), .is undef, .is undef, .is undef, .is undef, .is undef, .is undef, .is undef, .is (.bool false)] (by kernel_rfl) rfl (by kernel_rfl) (by kernel_rfl) (.cons ?q1_0 (.cons ?q1_1 (.cons ?q1_2 (.cons ?q1_3 (.cons ?q1_4 (.cons ?q1_5 (.cons ?q1_6 (.cons ?q1_7 (.cons ?q1_8 (.cons ?q1_9 (.cons ?q1_10 (.cons ?q1_11 .nil)))))))))))) ?q1_fin
          case q1_0 =>
            intro wq hbw st  K hK
            have KQ := KW.out.trans (hbw.mono KW.out.size)
            have dd := Lib.hid (blk6 (KB.out.on hbw))
            have g0 := dd.out.1
            have g1 := dd.out.2.1
            have g2 := dd.out.2.2.1
            have g3 := dd.out.2.2.2.1
            have g4 := dd.out.2.2.2.2.1
            have g5 := dd.out.2.2.2.2.2.1
            have glt := dd.out.2.2.2.2.2.2
            simp only [Act.put, List.setIfInBounds_toArray, List.set_cons_zero, List.set_cons_succ] at hK ⊢
            unfold opStep
            rw [if_pos (by rfl)]
            go_simp
            exact hK.out _ _ (Below.refl _ _) rfl _ rfl
          case q1_1 =>
            intro wq hbw st  K hK
            have KQ := KW.out.trans (hbw.mono KW.out.size)
            have dd := Lib.hid (blk6 (KB.out.on hbw))
            have g0 := dd.out.1
            have g1 := dd.out.2.1
            have g2 := dd.out.2.2.1
            have g3 := dd.out.2.2.2.1
            have g4 := dd.out.2.2.2.2.1
            have g5 := dd.out.2.2.2.2.2.1
            have glt := dd.out.2.2.2.2.2.2
            simp only [Act.put, List.setIfInBounds_toArray, List.set_cons_zero, List.set_cons_succ] at hK ⊢
            unfold opStep
            rw [if_pos (by rfl)]
            go_simp
            exact hK.out _ _ (Below.refl _ _) rfl _ rfl
          case q1_2 =>
            intro wq hbw st  K hK
            have KQ := KW.out.trans (hbw.mono KW.out.size)
            have dd := Lib.hid (blk6 (KB.out.on hbw))
            have g0 := dd.out.1
            have g1 := dd.out.2.1
            have g2 := dd.out.2.2.1
            have g3 := dd.out.2.2.2.1
            have g4 := dd.out.2.2.2.2.1
            have g5 := dd.out.2.2.2.2.2.1
            have glt := dd.out.2.2.2.2.2.2
            simp only [Act.put, List.setIfInBounds_toArray, List.set_cons_zero, List.set_cons_succ] at hK ⊢
            unfold opStep
            rw [if_pos (by rfl)]
            go_simp
            exact hK.out _ _ (Below.refl _ _) rfl _ rfl
          case q1_3 =>
            intro wq hbw st  K hK
            have KQ := KW.out.trans (hbw.mono KW.out.size)
            have dd := Lib.hid (blk6 (KB.out.on hbw))
            have g0 := dd.out.1
            have g1 := dd.out.2.1
            have g2 := dd.out.2.2.1
            have g3 := dd.out.2.2.2.1
            have g4 := dd.out.2.2.2.2.1
            have g5 := dd.out.2.2.2.2.2.1
            have glt := dd.out.2.2.2.2.2.2
            simp only [Act.put, List.setIfInBounds_toArray, List.set_cons_zero, List.set_cons_succ] at hK ⊢
            unfold opStep
            rw [if_pos (by rfl)]
            go_simp
            exact hK.out _ _ (Below.refl _ _) rfl _ rfl
          case q1_4 =>
            intro wq hbw st  K hK
            have KQ := KW.out.trans (hbw.mono KW.out.size)
            have dd := Lib.hid (blk6 (KB.out.on hbw))
            have g0 := dd.out.1
            have g1 := dd.out.2.1
            have g2 := dd.out.2.2.1
            have g3 := dd.out.2.2.2.1
            have g4 := dd.out.2.2.2.2.1
            have g5 := dd.out.2.2.2.2.2.1
            have glt := dd.out.2.2.2.2.2.2
            simp only [Act.put, List.setIfInBounds_toArray, List.set_cons_zero, List.set_cons_succ] at hK ⊢
            unfold opStep
            rw [if_neg (by change ¬ (false = true); exact Bool.false_ne_true)]
            exact hK.out _ _ (Below.refl _ _) rfl _ rfl
          case q1_5 =>
            intro wq hbw st  K hK
            have KQ := KW.out.trans (hbw.mono KW.out.size)
            have dd := Lib.hid (blk6 (KB.out.on hbw))
            have g0 := dd.out.1
            have g1 := dd.out.2.1
            have g2 := dd.out.2.2.1
            have g3 := dd.out.2.2.2.1
            have g4 := dd.out.2.2.2.2.1
            have g5 := dd.out.2.2.2.2.2.1
            have glt := dd.out.2.2.2.2.2.2
            simp only [Act.put, List.setIfInBounds_toArray, List.set_cons_zero, List.set_cons_succ] at hK ⊢
            unfold opStep
            rw [if_neg (by change ¬ (false = true); exact Bool.false_ne_true)]
            exact hK.out _ _ (Below.refl _ _) rfl _ rfl
          case q1_6 =>
            intro wq hbw st  K hK
            have KQ := KW.out.trans (hbw.mono KW.out.size)
            have dd := Lib.hid (blk6 (KB.out.on hbw))
            have g0 := dd.out.1
            have g1 := dd.out.2.1
            have g2 := dd.out.2.2.1
            have g3 := dd.out.2.2.2.1
            have g4 := dd.out.2.2.2.2.1
            have g5 := dd.out.2.2.2.2.2.1
            have glt := dd.out.2.2.2.2.2.2
            simp only [Act.put, List.setIfInBounds_toArray, List.set_cons_zero, List.set_cons_succ] at hK ⊢
            unfold opStep
            rw [if_neg (by change ¬ (false = true); exact Bool.false_ne_true)]
            exact hK.out _ _ (Below.refl _ _) rfl _ rfl
          case q1_7 =>
            intro wq hbw st  K hK
            have KQ := KW.out.trans (hbw.mono KW.out.size)
            have dd := Lib.hid (blk6 (KB.out.on hbw))
            have g0 := dd.out.1
            have g1 := dd.out.2.1
            have g2 := dd.out.2.2.1
            have g3 := dd.out.2.2.2.1
            have g4 := dd.out.2.2.2.2.1
            have g5 := dd.out.2.2.2.2.2.1
            have glt := dd.out.2.2.2.2.2.2
            simp only [Act.put, List.setIfInBounds_toArray, List.set_cons_zero, List.set_cons_succ] at hK ⊢
            unfold opStep
            rw [if_neg (by change ¬ (false = true); exact Bool.false_ne_true)]
            exact hK.out _ _ (Below.refl _ _) rfl _ rfl
          case q1_8 =>
            intro wq hbw st  K hK
            have KQ := KW.out.trans (hbw.mono KW.out.size)
            have dd := Lib.hid (blk6 (KB.out.on hbw))
            have g0 := dd.out.1
            have g1 := dd.out.2.1
            have g2 := dd.out.2.2.1
            have g3 := dd.out.2.2.2.1
            have g4 := dd.out.2.2.2.2.1
            have g5 := dd.out.2.2.2.2.2.1
            have glt := dd.out.2.2.2.2.2.2
            simp only [Act.put, List.setIfInBounds_toArray, List.set_cons_zero, List.set_cons_succ] at hK ⊢
            unfold opStep
            rw [if_neg (by change ¬ (false = true); exact Bool.false_ne_true)]
            exact hK.out _ _ (Below.refl _ _) rfl _ rfl
          case q1_9 =>
            intro wq hbw st  K hK
            have KQ := KW.out.trans (hbw.mono KW.out.size)
            have dd := Lib.hid (blk6 (KB.out.on hbw))
            have g0 := dd.out.1
            have g1 := dd.out.2.1
            have g2 := dd.out.2.2.1
            have g3 := dd.out.2.2.2.1
            have g4 := dd.out.2.2.2.2.1
            have g5 := dd.out.2.2.2.2.2.1
            have glt := dd.out.2.2.2.2.2.2
            simp only [Act.put, List.setIfInBounds_toArray, List.set_cons_zero, List.set_cons_succ] at hK ⊢
            unfold opStep
            rw [if_neg (by change ¬ (false = true); exact Bool.false_ne_true)]
            exact hK.out _ _ (Below.refl _ _) rfl _ rfl
          case q1_10 =>
            intro wq hbw st  K hK
            have KQ := KW.out.trans (hbw.mono KW.out.size)
            have dd := Lib.hid (blk6 (KB.out.on hbw))
            have g0 := dd.out.1
            have g1 := dd.out.2.1
            have g2 := dd.out.2.2.1
            have g3 := dd.out.2.2.2.1
            have g4 := dd.out.2.2.2.2.1
            have g5 := dd.out.2.2.2.2.2.1
            have glt := dd.out.2.2.2.2.2.2
            simp only [Act.put, List.setIfInBounds_toArray, List.set_cons_zero, List.set_cons_succ] at hK ⊢
            unfold opStep
            rw [if_neg (by change ¬ (false = true); exact Bool.false_ne_true)]
            exact hK.out _ _ (Below.refl _ _) rfl _ rfl
          case q1_11 =>
            intro wq hbw st  K hK
            have KQ := KW.out.trans (hbw.mono KW.out.size)
            have dd := Lib.hid (blk6 (KB.out.on hbw))
            have g0 := dd.out.1
            have g1 := dd.out.2.1
            have g2 := dd.out.2.2.1
            have g3 := dd.out.2.2.2.1
            have g4 := dd.out.2.2.2.2.1
            have g5 := dd.out.2.2.2.2.2.1
            have glt := dd.out.2.2.2.2.2.2
            simp only [Act.put, List.setIfInBounds_toArray, List.set_cons_zero, List.set_cons_succ] at hK ⊢
            unfold opStep
            rw [if_pos (by rfl)]
            go_simp
            exact hK.out _ _ (Below.refl _ _) rfl _ rfl
          case q1_fin =>
            intro wq hbw
            try simp only [FinAll]
            simp only [Act.put, List.setIfInBounds_toArray, List.set_cons_zero, List.set_cons_succ]
            have HOW4 := Lib.hid (below_row HOW.out hbw)
            replace KW := Lib.hid (KW.out.trans (hbw.mono KW.out.size))
            clear hbw
            go_wp2
            go_roundg (order.length - (k + 1))
            case measure => have := HM.out; omega
            case rel => exact ⟨k + 1, S ++ addO x, by omega, by go_num, HL1.out, by rw [List.length_append]; omega, HOW4.out, KW.out⟩
        · have e1 := beq_f hk1
          go_upto_region 10 with fail
          have KB := Lib.hid HBX.out.1
          have KW3 := Lib.hid (KW.out.trans (HBX.out.2.mono KW.out.size))
          have HOW3 := Lib.hid (below_row HOW.out HBX.out.2)
          clear HOW KW HBX d0 d1 d2 d3 d4 d5 dd q0
          have KW := KW3
          have HOW := HOW3
          clear KW3 HOW3
          generalize World.alloc wr _ = w3 at *
          generalize wr.heap.size = gb at *
          by_cases hk2 : kindO x = 2
          · have e2 := beq_t hk2
            have HSA := exact_same S (seeO x)
            by_cases hex : exactB S (seeO x) = true
            · have HL1 : Hid (lb = legFrom h (order.drop (k + 1)) (order.take (k + 1)) S) := Lib.hid (by rw [HLO.out, if_neg hk1, if_pos hk2, HTK.out, hex, Bool.true_and])
              rw [hex] at HSA
              have HSM := Lib.hid HSA
              clear HSA hex hk1 hk2 HLO HTK
              refine region_left [.is (.pointer (some ⟨gb, 1, none⟩)), .is (.int .i64 (kindO x)), .is (.bool true), .is (.bool true), .is u5, .has (fun z w => Reads vs w z (ofL S)) (fun _ _ _ hb h => h.keep hb), .is (.pointer (some ⟨gb, 5, none⟩)), .is (.slice a5 (seeO x).length c5), .has (fun z w => Reads vs w z (ofL (seeO x))) (fun _ _ _ hb h => h.keep hb), .is (.bool true), .is (.bool false), .is (.bool false)] (by kernel_rfl) rfl (by kernel_rfl) (by kernel_rfl) (.cons ?q2_0 (.cons ?q2_1 (.cons ?q2_2 (.cons ?q2_3 (.cons ?q2_4 (.cons ?q2_5 (.cons ?q2_6 (.cons ?q2_7 (.cons ?q2_8 (.cons ?q2_9 (.cons ?q2_10 (.cons ?q2_11 .nil)))))))))))) ?q2_fin
              case q2_0 =>
                intro wq hbw st  K hK
                have KQ := KW.out.trans (hbw.mono KW.out.size)
                have dd := Lib.hid (blk6 (KB.out.on hbw))
                have g0 := dd.out.1
                have g1 := dd.out.2.1
                have g2 := dd.out.2.2.1
                have g3 := dd.out.2.2.2.1
                have g4 := dd.out.2.2.2.2.1
                have g5 := dd.out.2.2.2.2.2.1
                have glt := dd.out.2.2.2.2.2.2
                simp only [Act.put, List.setIfInBounds_toArray, List.set_cons_zero, List.set_cons_succ] at hK ⊢
                unfold opStep
                rw [if_pos (by rfl)]
                go_simp
                exact hK.out _ _ (Below.refl _ _) rfl _ rfl
              case q2_1 =>
                intro wq hbw st  K hK
                have KQ := KW.out.trans (hbw.mono KW.out.size)
                have dd := Lib.hid (blk6 (KB.out.on hbw))
                have g0 := dd.out.1
                have g1 := dd.out.2.1
                have g2 := dd.out.2.2.1
                have g3 := dd.out.2.2.2.1
                have g4 := dd.out.2.2.2.2.1
                have g5 := dd.out.2.2.2.2.2.1
                have glt := dd.out.2.2.2.2.2.2
                simp only [Act.put, List.setIfInBounds_toArray, List.set_cons_zero, List.set_cons_succ] at hK ⊢
                unfold opStep
                rw [if_pos (by rfl)]
                go_simp
                exact hK.out _ _ (Below.refl _ _) rfl _ rfl
              case q2_2 =>
                intro wq hbw st  K hK
                have KQ := KW.out.trans (hbw.mono KW.out.size)
                have dd := Lib.hid (blk6 (KB.out.on hbw))
                have g0 := dd.out.1
                have g1 := dd.out.2.1
                have g2 := dd.out.2.2.1
                have g3 := dd.out.2.2.2.1
                have g4 := dd.out.2.2.2.2.1
                have g5 := dd.out.2.2.2.2.2.1
                have glt := dd.out.2.2.2.2.2.2
                simp only [Act.put, List.setIfInBounds_toArray, List.set_cons_zero, List.set_cons_succ] at hK ⊢
                unfold opStep
                rw [if_pos (by rfl)]
                go_simp
                exact hK.out _ _ (Below.refl _ _) rfl _ rfl
              case q2_3 =>
                intro wq hbw st  K hK
                have KQ := KW.out.trans (hbw.mono KW.out.size)
                have dd := Lib.hid (blk6 (KB.out.on hbw))
                have g0 := dd.out.1
                have g1 := dd.out.2.1
                have g2 := dd.out.2.2.1
                have g3 := dd.out.2.2.2.1
                have g4 := dd.out.2.2.2.2.1
                have g5 := dd.out.2.2.2.2.2.1
                have glt := dd.out.2.2.2.2.2.2
                simp only [Act.put, List.setIfInBounds_toArray, List.set_cons_zero, List.set_cons_succ] at hK ⊢
                unfold opStep
                rw [if_pos (by rfl)]
                go_simp
                exact hK.out _ _ (Below.refl _ _) rfl _ rfl
              case q2_4 =>
                intro wq hbw st  K hK
                have KQ := KW.out.trans (hbw.mono KW.out.size)
                have dd := Lib.hid (blk6 (KB.out.on hbw))
                have g0 := dd.out.1
                have g1 := dd.out.2.1
                have g2 := dd.out.2.2.1
                have g3 := dd.out.2.2.2.1
                have g4 := dd.out.2.2.2.2.1
                have g5 := dd.out.2.2.2.2.2.1
                have glt := dd.out.2.2.2.2.2.2
                simp only [Act.put, List.setIfInBounds_toArray, List.set_cons_zero, List.set_cons_succ] at hK ⊢
                unfold opStep
                rw [if_pos (by rfl)]
                go_simp
                exact hK.out _ _ (Below.refl _ _) rfl _ rfl
              case q2_5 =>
                intro wq hbw st  K hK
                have KQ := KW.out.trans (hbw.mono KW.out.size)
                have dd := Lib.hid (blk6 (KB.out.on hbw))
                have g0 := dd.out.1
                have g1 := dd.out.2.1
                have g2 := dd.out.2.2.1
                have g3 := dd.out.2.2.2.1
                have g4 := dd.out.2.2.2.2.1
                have g5 := dd.out.2.2.2.2.2.1
                have glt := dd.out.2.2.2.2.2.2
                simp only [Act.put, List.setIfInBounds_toArray, List.set_cons_zero, List.set_cons_succ] at hK ⊢
                unfold opStep
                rw [if_pos (by rfl)]
                go_simp
                refine (rof_any _ S wq (Reads.of_owns (below_row HOW.out hbw)) (by omega)).mono ?_
                rintro e wz ⟨z, rfl, hrz, hbz⟩
                go_simp
                exact hK.out _ _ hbz (Reads.of_owns hrz) _ rfl
              case q2_6 =>
                intro wq hbw st  K hK
                have KQ := KW.out.trans (hbw.mono KW.out.size)
                have dd := Lib.hid (blk6 (KB.out.on hbw))
                have g0 := dd.out.1
                have g1 := dd.out.2.1
                have g2 := dd.out.2.2.1
                have g3 := dd.out.2.2.2.1
                have g4 := dd.out.2.2.2.2.1
                have g5 := dd.out.2.2.2.2.2.1
                have glt := dd.out.2.2.2.2.2.2
                simp only [Act.put, List.setIfInBounds_toArray, List.set_cons_zero, List.set_cons_succ] at hK ⊢
                unfold opStep
                rw [if_pos (by rfl)]
                go_simp
                exact hK.out _ _ (Below.refl _ _) rfl _ rfl
              case q2_7 =>
                intro wq hbw st  K hK
                have KQ := KW.out.trans (hbw.mono KW.out.size)
                have dd := Lib.hid (blk6 (KB.out.on hbw))
                have g0 := dd.out.1
                have g1 := dd.out.2.1
                have g2 := dd.out.2.2.1
                have g3 := dd.out.2.2.2.1
                have g4 := dd.out.2.2.2.2.1
                have g5 := dd.out.2.2.2.2.2.1
                have glt := dd.out.2.2.2.2.2.2
                simp only [Act.put, List.setIfInBounds_toArray, List.set_cons_zero, List.set_cons_succ] at hK ⊢
                unfold opStep
                rw [if_pos (by rfl)]
                go_simp
                exact hK.out _ _ (Below.refl _ _) rfl _ rfl
              case q2_8 =>
                intro wq hbw st x5 h5 K hK
                have KQ := KW.out.trans (hbw.mono KW.out.size)
                have dd := Lib.hid (blk6 (KB.out.on hbw))
                have g0 := dd.out.1
                have g1 := dd.out.2.1
                have g2 := dd.out.2.2.1
                have g3 := dd.out.2.2.2.1
                have g4 := dd.out.2.2.2.2.1
                have g5 := dd.out.2.2.2.2.2.1
                have glt := dd.out.2.2.2.2.2.2
                simp only [Act.put, List.setIfInBounds_toArray, List.set_cons_zero, List.set_cons_succ] at hK ⊢
                unfold opStep
                rw [if_pos (by rfl)]
                go_simp
                refine (rof_any _ (seeO x) wq (HN.out.2.keep KQ) (by omega)).mono ?_
                rintro e wz ⟨z, rfl, hrz, hbz⟩
                go_simp
                exact hK.out _ _ hbz (Reads.of_owns hrz) _ rfl
              case q2_9 =>
                intro wq hbw st x5 h5 x8 h8 K hK
                have KQ := KW.out.trans (hbw.mono KW.out.size)
                have dd := Lib.hid (blk6 (KB.out.on hbw))
                have g0 := dd.out.1
                have g1 := dd.out.2.1
                have g2 := dd.out.2.2.1
                have g3 := dd.out.2.2.2.1
                have g4 := dd.out.2.2.2.2.1
                have g5 := dd.out.2.2.2.2.2.1
                have glt := dd.out.2.2.2.2.2.2
                simp only [Act.put, List.setIfInBounds_toArray, List.set_cons_zero, List.set_cons_succ] at hK ⊢
                unfold opStep
                rw [if_pos (by rfl)]
                go_simp
                have hpc := rsame_any _ _ (ofL S) (ofL (seeO x)) wq h5 h8
                rw [HSM.out] at hpc
                refine hpc.mono ?_
                rintro e wz ⟨rfl, hdz⟩
                go_simp
                exact hK.out _ _ hdz.below rfl _ rfl
              case q2_10 =>
                intro wq hbw st  K hK
                have KQ := KW.out.trans (hbw.mono KW.out.size)
                have dd := Lib.hid (blk6 (KB.out.on hbw))
                have g0 := dd.out.1
                have g1 := dd.out.2.1
                have g2 := dd.out.2.2.1
                have g3 := dd.out.2.2.2.1
                have g4 := dd.out.2.2.2.2.1
                have g5 := dd.out.2.2.2.2.2.1
                have glt := dd.out.2.2.2.2.2.2
                simp only [Act.put, List.setIfInBounds_toArray, List.set_cons_zero, List.set_cons_succ] at hK ⊢
                unfold opStep
                rw [if_pos (by rfl)]
                go_simp
                exact hK.out _ _ (Below.refl _ _) rfl _ rfl
              case q2_11 =>
                intro wq hbw st  K hK
                have KQ := KW.out.trans (hbw.mono KW.out.size)
                have dd := Lib.hid (blk6 (KB.out.on hbw))
                have g0 := dd.out.1
                have g1 := dd.out.2.1
                have g2 := dd.out.2.2.1
                have g3 := dd.out.2.2.2.1
                have g4 := dd.out.2.2.2.2.1
                have g5 := dd.out.2.2.2.2.2.1
                have glt := dd.out.2.2.2.2.2.2
                simp only [Act.put, List.setIfInBounds_toArray, List.set_cons_zero, List.set_cons_succ] at hK ⊢
                unfold opStep
                rw [if_pos (by rfl)]
                go_simp
                exact hK.out _ _ (Below.refl _ _) rfl _ rfl
              case q2_fin =>
                intro wq hbw
                intro x5 h5 x8 h8
                try simp only [FinAll]
                simp only [Act.put, List.setIfInBounds_toArray, List.set_cons_zero, List.set_cons_succ]
                have HOW4 := Lib.hid (below_row HOW.out hbw)
                replace KW := Lib.hid (KW.out.trans (hbw.mono KW.out.size))
                clear hbw
                go_wp2
                go_roundg (order.length - (k + 1))
                case measure => have := HM.out; omega
                case rel => exact ⟨k + 1, S, by omega, by go_num, HL1.out, by omega, HOW4.out, KW.out⟩
            · have HL1 : Hid (lb = false) := Lib.hid (by rw [HLO.out, if_neg hk1, if_pos hk2, Bool.eq_false_iff.2 hex, Bool.false_and])
              rw [Bool.eq_false_iff.2 hex] at HSA
              have HSM := Lib.hid HSA
              clear HSA hex hk1 hk2 HLO HTK
              refine region_left [.is (.pointer (some ⟨gb, 1, none⟩)), .is (.int .i64 (kindO x)), .is (.bool true), .is (.bool true), .is u5, .has (fun z w => Reads vs w z (ofL S)) (fun _ _ _ hb h => h.keep hb), .is (.pointer (some ⟨gb, 5, none⟩)), .is (.slice a5 (seeO x).length c5), .has (fun z w => Reads vs w z (ofL (seeO x))) (fun _ _ _ hb h => h.keep hb), .is (.bool false), .is (.bool true), .is (.bool true)] (by kernel_rfl) rfl (by kernel_rfl) (by kernel_rfl) (.cons ?q3_0 (.cons ?q3_1 (.cons ?q3_2 (.cons ?q3_3 (.cons ?q3_4 (.cons ?q3_5 (.cons ?q3_6 (.cons ?q3_7 (.cons ?q3_8 (.cons ?q3_9 (.cons ?q3_10 (.cons ?q3_11 .nil)))))))))))) ?q3_fin
              case q3_0 =>
                intro wq hbw st  K hK
                have KQ := KW.out.trans (hbw.mono KW.out.size)
                have dd := Lib.hid (blk6 (KB.out.on hbw))
                have g0 := dd.out.1
                have g1 := dd.out.2.1
                have g2 := dd.out.2.2.1
                have g3 := dd.out.2.2.2.1
                have g4 := dd.out.2.2.2.2.1
                have g5 := dd.out.2.2.2.2.2.1
                have glt := dd.out.2.2.2.2.2.2
                simp only [Act.put, List.setIfInBounds_toArray, List.set_cons_zero, List.set_cons_succ] at hK ⊢
                unfold opStep
                rw [if_pos (by rfl)]
                go_simp
                exact hK.out _ _ (Below.refl _ _) rfl _ rfl
              case q3_1 =>
                intro wq hbw st  K hK
                have KQ := KW.out.trans (hbw.mono KW.out.size)
                have dd := Lib.hid (blk6 (KB.out.on hbw))
                have g0 := dd.out.1
                have g1 := dd.out.2.1
                have g2 := dd.out.2.2.1
                have g3 := dd.out.2.2.2.1
                have g4 := dd.out.2.2.2.2.1
                have g5 := dd.out.2.2.2.2.2.1
                have glt := dd.out.2.2.2.2.2.2
                simp only [Act.put, List.setIfInBounds_toArray, List.set_cons_zero, List.set_cons_succ] at hK ⊢
                unfold opStep
                rw [if_pos (by rfl)]
                go_simp
                exact hK.out _ _ (Below.refl _ _) rfl _ rfl
              case q3_2 =>
                intro wq hbw st  K hK
                have KQ := KW.out.trans (hbw.mono KW.out.size)
                have dd := Lib.hid (blk6 (KB.out.on hbw))
                have g0 := dd.out.1
                have g1 := dd.out.2.1
                have g2 := dd.out.2.2.1
                have g3 := dd.out.2.2.2.1
                have g4 := dd.out.2.2.2.2.1
                have g5 := dd.out.2.2.2.2.2.1
                have glt := dd.out.2.2.2.2.2.2
                simp only [Act.put, List.setIfInBounds_toArray, List.set_cons_zero, List.set_cons_succ] at hK ⊢
                unfold opStep
                rw [if_pos (by rfl)]
                go_simp
                exact hK.out _ _ (Below.refl _ _) rfl _ rfl
              case q3_3 =>
                intro wq hbw st  K hK
                have KQ := KW.out.trans (hbw.mono KW.out.size)
                have dd := Lib.hid (blk6 (KB.out.on hbw))
                have g0 := dd.out.1
                have g1 := dd.out.2.1
                have g2 := dd.out.2.2.1
                have g3 := dd.out.2.2.2.1
                have g4 := dd.out.2.2.2.2.1
                have g5 := dd.out.2.2.2.2.2.1
                have glt := dd.out.2.2.2.2.2.2
                simp only [Act.put, List.setIfInBounds_toArray, List.set_cons_zero, List.set_cons_succ] at hK ⊢
                unfold opStep
                rw [if_pos (by rfl)]
                go_simp
                exact hK.out _ _ (Below.refl _ _) rfl _ rfl
              case q3_4 =>
                intro wq hbw st  K hK
                have KQ := KW.out.trans (hbw.mono KW.out.size)
                have dd := Lib.hid (blk6 (KB.out.on hbw))
                have g0 := dd.out.1
                have g1 := dd.out.2.1
                have g2 := dd.out.2.2.1
                have g3 := dd.out.2.2.2.1
                have g4 := dd.out.2.2.2.2.1
                have g5 := dd.out.2.2.2.2.2.1
                have glt := dd.out.2.2.2.2.2.2
                simp only [Act.put, List.setIfInBounds_toArray, List.set_cons_zero, List.set_cons_succ] at hK ⊢
                unfold opStep
                rw [if_pos (by rfl)]
                go_simp
                exact hK.out _ _ (Below.refl _ _) rfl _ rfl
              case q3_5 =>
                intro wq hbw st  K hK
                have KQ := KW.out.trans (hbw.mono KW.out.size)
                have dd := Lib.hid (blk6 (KB.out.on hbw))
                have g0 := dd.out.1
                have g1 := dd.out.2.1
                have g2 := dd.out.2.2.1
                have g3 := dd.out.2.2.2.1
                have g4 := dd.out.2.2.2.2.1
                have g5 := dd.out.2.2.2.2.2.1
                have glt := dd.out.2.2.2.2.2.2
                simp only [Act.put, List.setIfInBounds_toArray, List.set_cons_zero, List.set_cons_succ] at hK ⊢
                unfold opStep
                rw [if_pos (by rfl)]
                go_simp
                refine (rof_any _ S wq (Reads.of_owns (below_row HOW.out hbw)) (by omega)).mono ?_
                rintro e wz ⟨z, rfl, hrz, hbz⟩
                go_simp
                exact hK.out _ _ hbz (Reads.of_owns hrz) _ rfl
              case q3_6 =>
                intro wq hbw st  K hK
                have KQ := KW.out.trans (hbw.mono KW.out.size)
                have dd := Lib.hid (blk6 (KB.out.on hbw))
                have g0 := dd.out.1
                have g1 := dd.out.2.1
                have g2 := dd.out.2.2.1
                have g3 := dd.out.2.2.2.1
                have g4 := dd.out.2.2.2.2.1
                have g5 := dd.out.2.2.2.2.2.1
                have glt := dd.out.2.2.2.2.2.2
                simp only [Act.put, List.setIfInBounds_toArray, List.set_cons_zero, List.set_cons_succ] at hK ⊢
                unfold opStep
                rw [if_pos (by rfl)]
                go_simp
                exact hK.out _ _ (Below.refl _ _) rfl _ rfl
              case q3_7 =>
                intro wq hbw st  K hK
                have KQ := KW.out.trans (hbw.mono KW.out.size)
                have dd := Lib.hid (blk6 (KB.out.on hbw))
                have g0 := dd.out.1
                have g1 := dd.out.2.1
                have g2 := dd.out.2.2.1
                have g3 := dd.out.2.2.2.1
                have g4 := dd.out.2.2.2.2.1
                have g5 := dd.out.2.2.2.2.2.1
                have glt := dd.out.2.2.2.2.2.2
                simp only [Act.put, List.setIfInBounds_toArray, List.set_cons_zero, List.set_cons_succ] at hK ⊢
                unfold opStep
                rw [if_pos (by rfl)]
                go_simp
                exact hK.out _ _ (Below.refl _ _) rfl _ rfl
              case q3_8 =>
                intro wq hbw st x5 h5 K hK
                have KQ := KW.out.trans (hbw.mono KW.out.size)
                have dd := Lib.hid (blk6 (KB.out.on hbw))
                have g0 := dd.out.1
                have g1 := dd.out.2.1
                have g2 := dd.out.2.2.1
                have g3 := dd.out.2.2.2.1
                have g4 := dd.out.2.2.2.2.1
                have g5 := dd.out.2.2.2.2.2.1
                have glt := dd.out.2.2.2.2.2.2
                simp only [Act.put, List.setIfInBounds_toArray, List.set_cons_zero, List.set_cons_succ] at hK ⊢
                unfold opStep
                rw [if_pos (by rfl)]
                go_simp
                refine (rof_any _ (seeO x) wq (HN.out.2.keep KQ) (by omega)).mono ?_
                rintro e wz ⟨z, rfl, hrz, hbz⟩
                go_simp
                exact hK.out _ _ hbz (Reads.of_owns hrz) _ rfl
              case q3_9 =>
                intro wq hbw st x5 h5 x8 h8 K hK
                have KQ := KW.out.trans (hbw.mono KW.out.size)
                have dd := Lib.hid (blk6 (KB.out.on hbw))
                have g0 := dd.out.1
                have g1 := dd.out.2.1
                have g2 := dd.out.2.2.1
                have g3 := dd.out.2.2.2.1
                have g4 := dd.out.2.2.2.2.1
                have g5 := dd.out.2.2.2.2.2.1
                have glt := dd.out.2.2.2.2.2.2
                simp only [Act.put, List.setIfInBounds_toArray, List.set_cons_zero, List.set_cons_succ] at hK ⊢
                unfold opStep
                rw [if_pos (by rfl)]
                go_simp
                have hpc := rsame_any _ _ (ofL S) (ofL (seeO x)) wq h5 h8
                rw [HSM.out] at hpc
                refine hpc.mono ?_
                rintro e wz ⟨rfl, hdz⟩
                go_simp
                exact hK.out _ _ hdz.below rfl _ rfl
              case q3_10 =>
                intro wq hbw st  K hK
                have KQ := KW.out.trans (hbw.mono KW.out.size)
                have dd := Lib.hid (blk6 (KB.out.on hbw))
                have g0 := dd.out.1
                have g1 := dd.out.2.1
                have g2 := dd.out.2.2.1
                have g3 := dd.out.2.2.2.1
                have g4 := dd.out.2.2.2.2.1
                have g5 := dd.out.2.2.2.2.2.1
                have glt := dd.out.2.2.2.2.2.2
                simp only [Act.put, List.setIfInBounds_toArray, List.set_cons_zero, List.set_cons_succ] at hK ⊢
                unfold opStep
                rw [if_pos (by rfl)]
                go_simp
                exact hK.out _ _ (Below.refl _ _) rfl _ rfl
              case q3_11 =>
                intro wq hbw st  K hK
                have KQ := KW.out.trans (hbw.mono KW.out.size)
                have dd := Lib.hid (blk6 (KB.out.on hbw))
                have g0 := dd.out.1
                have g1 := dd.out.2.1
                have g2 := dd.out.2.2.1
                have g3 := dd.out.2.2.2.1
                have g4 := dd.out.2.2.2.2.1
                have g5 := dd.out.2.2.2.2.2.1
                have glt := dd.out.2.2.2.2.2.2
                simp only [Act.put, List.setIfInBounds_toArray, List.set_cons_zero, List.set_cons_succ] at hK ⊢
                unfold opStep
                rw [if_pos (by rfl)]
                go_simp
                exact hK.out _ _ (Below.refl _ _) rfl _ rfl
              case q3_fin =>
                intro wq hbw
                intro x5 h5 x8 h8
                try simp only [FinAll]
                simp only [Act.put, List.setIfInBounds_toArray, List.set_cons_zero, List.set_cons_succ]
                replace KW := Lib.hid (KW.out.trans (hbw.mono KW.out.size))
                clear hbw
                go_wp2
                go_ret
                exact ⟨ret_bool HL1.out.symm, KW.out⟩
          · have e2 := beq_f hk2
            have HL1 : Hid (lb = legFrom h (order.drop (k + 1)) (order.take (k + 1)) S) := Lib.hid (by rw [HLO.out, if_neg hk1, if_neg hk2, HTK.out])
            clear hk1 hk2 HLO HTK
            refine region_left [.is (.pointer (some ⟨gb, 1, none⟩)), .is (.int .i64 (kindO x)), .is (.bool false), .is (.bool false), .is undef, .is undef, .is undef, .is undef, .is undef, .is undef, .is undef, .is (.bool false)] (by kernel_rfl) rfl (by kernel_rfl) (by kernel_rfl) (.cons ?q4_0 (.cons ?q4_1 (.cons ?q4_2 (.cons ?q4_3 (.cons ?q4_4 (.cons ?q4_5 (.cons ?q4_6 (.cons ?q4_7 (.cons ?q4_8 (.cons ?q4_9 (.cons ?q4_10 (.cons ?q4_11 .nil)))))))))))) ?q4_fin
            case q4_0 =>
              intro wq hbw st  K hK
              have KQ := KW.out.trans (hbw.mono KW.out.size)
              have dd := Lib.hid (blk6 (KB.out.on hbw))
              have g0 := dd.out.1
              have g1 := dd.out.2.1
              have g2 := dd.out.2.2.1
              have g3 := dd.out.2.2.2.1
              have g4 := dd.out.2.2.2.2.1
              have g5 := dd.out.2.2.2.2.2.1
              have glt := dd.out.2.2.2.2.2.2
              simp only [Act.put, List.setIfInBounds_toArray, List.set_cons_zero, List.set_cons_succ] at hK ⊢
              unfold opStep
              rw [if_pos (by rfl)]
              go_simp
              exact hK.out _ _ (Below.refl _ _) rfl _ rfl
            case q4_1 =>
              intro wq hbw st  K hK
              have KQ := KW.out.trans (hbw.mono KW.out.size)
              have dd := Lib.hid (blk6 (KB.out.on hbw))
              have g0 := dd.out.1
              have g1 := dd.out.2.1
              have g2 := dd.out.2.2.1
              have g3 := dd.out.2.2.2.1
              have g4 := dd.out.2.2.2.2.1
              have g5 := dd.out.2.2.2.2.2.1
              have glt := dd.out.2.2.2.2.2.2
              simp only [Act.put, List.setIfInBounds_toArray, List.set_cons_zero, List.set_cons_succ] at hK ⊢
              unfold opStep
              rw [if_pos (by rfl)]
              go_simp
              exact hK.out _ _ (Below.refl _ _) rfl _ rfl
            case q4_2 =>
              intro wq hbw st  K hK
              have KQ := KW.out.trans (hbw.mono KW.out.size)
              have dd := Lib.hid (blk6 (KB.out.on hbw))
              have g0 := dd.out.1
              have g1 := dd.out.2.1
              have g2 := dd.out.2.2.1
              have g3 := dd.out.2.2.2.1
              have g4 := dd.out.2.2.2.2.1
              have g5 := dd.out.2.2.2.2.2.1
              have glt := dd.out.2.2.2.2.2.2
              simp only [Act.put, List.setIfInBounds_toArray, List.set_cons_zero, List.set_cons_succ] at hK ⊢
              unfold opStep
              rw [if_pos (by rfl)]
              go_simp
              exact hK.out _ _ (Below.refl _ _) rfl _ rfl
            case q4_3 =>
              intro wq hbw st  K hK
              have KQ := KW.out.trans (hbw.mono KW.out.size)
              have dd := Lib.hid (blk6 (KB.out.on hbw))
              have g0 := dd.out.1
              have g1 := dd.out.2.1
              have g2 := dd.out.2.2.1
              have g3 := dd.out.2.2.2.1
              have g4 := dd.out.2.2.2.2.1
              have g5 := dd.out.2.2.2.2.2.1
              have glt := dd.out.2.2.2.2.2.2
              simp only [Act.put, List.setIfInBounds_toArray, List.set_cons_zero, List.set_cons_succ] at hK ⊢
              unfold opStep
              rw [if_pos (by rfl)]
              go_simp
              exact hK.out _ _ (Below.refl _ _) rfl _ rfl
            case q4_4 =>
              intro wq hbw st  K hK
              have KQ := KW.out.trans (hbw.mono KW.out.size)
              have dd := Lib.hid (blk6 (KB.out.on hbw))
              have g0 := dd.out.1
              have g1 := dd.out.2.1
              have g2 := dd.out.2.2.1
              have g3 := dd.out.2.2.2.1
              have g4 := dd.out.2.2.2.2.1
              have g5 := dd.out.2.2.2.2.2.1
              have glt := dd.out.2.2.2.2.2.2
              simp only [Act.put, List.setIfInBounds_toArray, List.set_cons_zero, List.set_cons_succ] at hK ⊢
              unfold opStep
              rw [if_neg (by change ¬ (false = true); exact Bool.false_ne_true)]
              exact hK.out _ _ (Below.refl _ _) rfl _ rfl
            case q4_5 =>
              intro wq hbw st  K hK
              have KQ := KW.out.trans (hbw.mono KW.out.size)
              have dd := Lib.hid (blk6 (KB.out.on hbw))
              have g0 := dd.out.1
              have g1 := dd.out.2.1
              have g2 := dd.out.2.2.1
              have g3 := dd.out.2.2.2.1
              have g4 := dd.out.2.2.2.2.1
              have g5 := dd.out.2.2.2.2.2.1
              have glt := dd.out.2.2.2.2.2.2
              simp only [Act.put, List.setIfInBounds_toArray, List.set_cons_zero, List.set_cons_succ] at hK ⊢
              unfold opStep
              rw [if_neg (by change ¬ (false = true); exact Bool.false_ne_true)]
              exact hK.out _ _ (Below.refl _ _) rfl _ rfl
            case q4_6 =>
              intro wq hbw st  K hK
              have KQ := KW.out.trans (hbw.mono KW.out.size)
              have dd := Lib.hid (blk6 (KB.out.on hbw))
              have g0 := dd.out.1
              have g1 := dd.out.2.1
              have g2 := dd.out.2.2.1
              have g3 := dd.out.2.2.2.1
              have g4 := dd.out.2.2.2.2.1
              have g5 := dd.out.2.2.2.2.2.1
              have glt := dd.out.2.2.2.2.2.2
              simp only [Act.put, List.setIfInBounds_toArray, List.set_cons_zero, List.set_cons_succ] at hK ⊢
              unfold opStep
              rw [if_neg (by change ¬ (false = true); exact Bool.false_ne_true)]
              exact hK.out _ _ (Below.refl _ _) rfl _ rfl
            case q4_7 =>
              intro wq hbw st  K hK
              have KQ := KW.out.trans (hbw.mono KW.out.size)
              have dd := Lib.hid (blk6 (KB.out.on hbw))
              have g0 := dd.out.1
              have g1 := dd.out.2.1
              have g2 := dd.out.2.2.1
              have g3 := dd.out.2.2.2.1
              have g4 := dd.out.2.2.2.2.1
              have g5 := dd.out.2.2.2.2.2.1
              have glt := dd.out.2.2.2.2.2.2
              simp only [Act.put, List.setIfInBounds_toArray, List.set_cons_zero, List.set_cons_succ] at hK ⊢
              unfold opStep
              rw [if_neg (by change ¬ (false = true); exact Bool.false_ne_true)]
              exact hK.out _ _ (Below.refl _ _) rfl _ rfl
            case q4_8 =>
              intro wq hbw st  K hK
              have KQ := KW.out.trans (hbw.mono KW.out.size)
              have dd := Lib.hid (blk6 (KB.out.on hbw))
              have g0 := dd.out.1
              have g1 := dd.out.2.1
              have g2 := dd.out.2.2.1
              have g3 := dd.out.2.2.2.1
              have g4 := dd.out.2.2.2.2.1
              have g5 := dd.out.2.2.2.2.2.1
              have glt := dd.out.2.2.2.2.2.2
              simp only [Act.put, List.setIfInBounds_toArray, List.set_cons_zero, List.set_cons_succ] at hK ⊢
              unfold opStep
              rw [if_neg (by change ¬ (false = true); exact Bool.false_ne_true)]
              exact hK.out _ _ (Below.refl _ _) rfl _ rfl
            case q4_9 =>
              intro wq hbw st  K hK
              have KQ := KW.out.trans (hbw.mono KW.out.size)
              have dd := Lib.hid (blk6 (KB.out.on hbw))
              have g0 := dd.out.1
              have g1 := dd.out.2.1
              have g2 := dd.out.2.2.1
              have g3 := dd.out.2.2.2.1
              have g4 := dd.out.2.2.2.2.1
              have g5 := dd.out.2.2.2.2.2.1
              have glt := dd.out.2.2.2.2.2.2
              simp only [Act.put, List.setIfInBounds_toArray, List.set_cons_zero, List.set_cons_succ] at hK ⊢
              unfold opStep
              rw [if_neg (by change ¬ (false = true); exact Bool.false_ne_true)]
              exact hK.out _ _ (Below.refl _ _) rfl _ rfl
            case q4_10 =>
              intro wq hbw st  K hK
              have KQ := KW.out.trans (hbw.mono KW.out.size)
              have dd := Lib.hid (blk6 (KB.out.on hbw))
              have g0 := dd.out.1
              have g1 := dd.out.2.1
              have g2 := dd.out.2.2.1
              have g3 := dd.out.2.2.2.1
              have g4 := dd.out.2.2.2.2.1
              have g5 := dd.out.2.2.2.2.2.1
              have glt := dd.out.2.2.2.2.2.2
              simp only [Act.put, List.setIfInBounds_toArray, List.set_cons_zero, List.set_cons_succ] at hK ⊢
              unfold opStep
              rw [if_neg (by change ¬ (false = true); exact Bool.false_ne_true)]
              exact hK.out _ _ (Below.refl _ _) rfl _ rfl
            case q4_11 =>
              intro wq hbw st  K hK
              have KQ := KW.out.trans (hbw.mono KW.out.size)
              have dd := Lib.hid (blk6 (KB.out.on hbw))
              have g0 := dd.out.1
              have g1 := dd.out.2.1
              have g2 := dd.out.2.2.1
              have g3 := dd.out.2.2.2.1
              have g4 := dd.out.2.2.2.2.1
              have g5 := dd.out.2.2.2.2.2.1
              have glt := dd.out.2.2.2.2.2.2
              simp only [Act.put, List.setIfInBounds_toArray, List.set_cons_zero, List.set_cons_succ] at hK ⊢
              unfold opStep
              rw [if_pos (by rfl)]
              go_simp
              exact hK.out _ _ (Below.refl _ _) rfl _ rfl
            case q4_fin =>
              intro wq hbw
              try simp only [FinAll]
              simp only [Act.put, List.setIfInBounds_toArray, List.set_cons_zero, List.set_cons_succ]
              have HOW4 := Lib.hid (below_row HOW.out hbw)
              replace KW := Lib.hid (KW.out.trans (hbw.mono KW.out.size))
              clear hbw
              go_wp2
              go_roundg (order.length - (k + 1))
              case measure => have := HM.out; omega
              case rel => exact ⟨k + 1, S, by omega, by go_num, HL1.out, by omega, HOW4.out, KW.out⟩
      · have HL1 : Hid (lb = true) := Lib.hid (by rw [HLEG.out, List.drop_of_length_le (by omega)]; rfl)
        go_wp2
        go_ret
        exact ⟨ret_bool HL1.out.symm, KW.out⟩
  · have HL1 : Hid (lb = false) := Lib.hid (HLI.out (Bool.eq_false_iff.2 hind))
    rw [Bool.eq_false_iff.2 hind] at HIND
    clear hind HLI
    go_wp2_with fail
    refine HIND.out.mono ?_
    rintro e w1 ⟨rfl, hb1⟩
    have KW1 := Lib.hid hb1
    clear hb1
    go_wp2
    go_ret
    exact ⟨ret_bool HL1.out.symm, KW1.out⟩
  end Go.Proofs.Ytnpfalloelmflaa
