/-
  Chapter 39: interval.
-/
import Derived.Test.YtahpecbcpgjinaaCl
import Derived.Deep.RegionHeld3
import Derived.Deep.DeepCutAuto
namespace Go.Proofs.Ytahpecbcpgjinaa
open Go.RowKit

def IntervalMade (w : World) (M R : Int) (F : List Int) (B C : List Cmd) (e : Ending) (w' : World) : Prop :=
  ∃ u v, e = .returned (.tuple #[u, v, .bool (okB M R F B C)]) ∧ Reads vi w' u (mustL M R F B C) ∧ Reads vi w' v (mayL M R F B C) ∧ Below w.heap.size w w'

theorem sub_snoc {R : Int} {B C : List Cmd} {k : Nat} (h : k < B.length) (hp : ∀ c ∈ B.take k, confB R c = true → c ∈ C) (hk : confB R B[k] = true → B[k] ∈ C) : ∀ c ∈ B.take (k + 1), confB R c = true → c ∈ C := by
  rw [List.take_succ_eq_append_getElem h]
  intro c hc
  rcases List.mem_append.1 hc with h | h
  · exact hp c h
  · simp at h; subst h; exact hk
theorem sub_bad {M R : Int} {F : List Int} {B C : List Cmd} {k : Nat} (h : k < B.length) (h1 : confB R B[k] = true) (h2 : ¬ B[k] ∈ C) : okB M R F B C = false := by
  rw [Bool.eq_false_iff]
  intro ho
  exact h2 ((ok_parts ho).2 _ (List.getElem_mem _) h1)
theorem none_made {w w' : World} {M R : Int} {F : List Int} {B C : List Cmd} (h : okB M R F B C = false) (hb : Below w.heap.size w w') : IntervalMade w M R F B C (.returned (.tuple #[.slice none 0 0, .slice none 0 0, .bool false])) w' :=
  ⟨_, _, by rw [h], by unfold mustL; rw [h]; exact Reads.nil _, by unfold mayL; rw [h]; exact Reads.nil _, hb⟩

theorem zero_size (R : Int) (L : List Cmd) : (#[.bool false, .bool false, .bool false, .bool false, .bool false, .bool false, .bool false, .bool false, .bool false, .bool false, .bool false, .bool false, .bool false, .bool false, .bool false, .bool false, .bool false, .bool false, .bool false, .bool false, .bool false, .bool false, .bool false, .bool false] : Array Value).size = (recA R L).size := by
  rw [recA_size]; rfl

/-- Two rows of the call's own, in different blocks. -/
def Rows2 (w0 wr : World) (v1 v2 : Value) (l1 l2 : List Int) : Prop :=
  wr.ownsRow w0.heap.size 3 1 v1 l1.length (l1.map vi) ∧ wr.ownsRow w0.heap.size 3 1 v2 l2.length (l2.map vi) ∧ (∀ b, v1.ownBlock = some b → v2.ownBlock ≠ some b) ∧ Below w0.heap.size w0 wr
theorem Rows2.swap {w0 wr : World} {v1 v2 : Value} {l1 l2 : List Int} (h : Rows2 w0 wr v1 v2 l1 l2) : Rows2 w0 wr v2 v1 l2 l1 := ⟨h.2.1, h.1, fun b h2 h1 => h.2.2.1 b h1 h2, h.2.2.2⟩
theorem rows2_first {w0 wr w1 : World} {v1 v2 v' : Value} {l1 l2 : List Int} {x : Int} {o : Obj} (h : Rows2 w0 wr v1 v2 l1 l2) (hgr : (wr.alloc o).grownBy w1 v1.ownBlock)
    (hown' : w1.ownsRow w0.heap.size 3 1 v' (l1.length + 1) (l1.map vi ++ [vi x])) (hat : v'.ownBlock = v1.ownBlock ∨ v'.ownBlock = some (wr.alloc o).heap.size) : Rows2 w0 w1 v' v2 (l1 ++ [x]) l2 := by
  have h1 := append_one (x := x) h.1 h.2.2.2 hgr hown'
  refine ⟨h1.1, (h.2.1.alloc o).kept hgr ?_, fun b hb => ?_, h1.2⟩
  · cases h2 : v2.ownBlock with
    | none => exact .inl rfl
    | some c => exact .inr fun e => h.2.2.1 c e.symm h2
  · rcases hat with e | e
    · exact h.2.2.1 b (e ▸ hb)
    · intro h2
      rw [e] at hb
      have := (h.2.1.lt b h2).2
      simp at hb
      omega

set_option maxRecDepth 100000 in
set_option maxHeartbeats 40000000 in
theorem interval_any (g vB vC : Value) (M R : Int) (F : List Int) (B C : List Cmd) (w : World) (hg : Gen w g M R F) (hb : ReadsC w vB B) (hc : ReadsC w vC C) :
    Calls Try.prog 43 #[g, vB, vC] w (IntervalMade w M R F B C) := by
  obtain ⟨i0, hinf, hz0, hz1, hz2⟩ := info_parts Try.infoInt
  have HI := Lib.hid (And.intro hinf (And.intro hz0 (And.intro hz1 hz2)))
  clear hinf hz0 hz1 hz2
  have hg0 := hg
  obtain ⟨vF, cl, vA, vO, rfl, hF, ⟨a2, n2, k2, rfl⟩, ⟨a3, n3, k3, rfl⟩⟩ := hg
  have HF := Lib.hid hF
  obtain ⟨a1, n1, k1, rfl⟩ := Slc.of_reads hF
  have HG := Lib.hid (And.intro hg0 (And.intro hb hc))
  obtain ⟨ao, cap, rfl, hl, hm, hn, hx⟩ := hb
  unfold maxLen at hm
  clear hg0 hF hn hx hc
  unfold gen at *
  have hu := usable_any _ M R F (w.alloc (.cells #[.int .i64 M, .int .i64 R, .slice a1 n1 k1, .int .i64 cl, .slice a2 n2 k2, .slice a3 n3 k3] 25)) (HG.out.1.on ((Below.refl _ _).alloc (Nat.le_refl _) _))
  by_cases hus : usableB M R F = true
  · rw [hus] at hu
    obtain ⟨_, ⟨hR1, hR2⟩, hF0, _, _⟩ := usable_parts hus
    have HU := Lib.hid (And.intro hu hus)
    clear hu hus hF0
    go_enter Try.func43, Try.ntmps43
    go_wp2_with fail
    refine HU.out.1.mono ?_
    rintro e w1 ⟨rfl, hb1⟩
    have G1 : Hid (Blk w1 w.heap.size 25 #[.int .i64 M, .int .i64 R, .slice a1 n1 k1, .int .i64 cl, .slice a2 n2 k2, .slice a3 n3 k3] ∧ Below w.heap.size w w1) := Lib.hid ⟨(Blk.new _ _ _).on hb1, ((Below.refl _ _).alloc (Nat.le_refl _) _).trans (hb1.mono (by simp))⟩
    clear hb1
    go_wp2
    go_loopg [6, 7, 20] B.length (fun m o1 o2 i wr => ∃ k : Nat, m + k = B.length ∧ o1 = .slice none 0 0 ∧ o2 = .slice none 0 0 ∧ i = .int .i64 k ∧ (∀ c ∈ B.take k, confB R c = true → c ∈ C) ∧ Blk wr w.heap.size 25 #[.int .i64 M, .int .i64 R, .slice a1 n1 k1, .int .i64 cl, .slice a2 n2 k2, .slice a3 n3 k3] ∧ Below w.heap.size w wr)
    case atStart => exact ⟨0, by omega, rfl, rfl, rfl, by simp, G1.out.1, G1.out.2⟩
    case round =>
      obtain ⟨k, hmk, rfl, rfl, rfl, hp, hG, hbel⟩ := hrel
      have HM := Lib.hid (And.intro hmk hp)
      have hk : k ≤ B.length := by omega
      have hs0 : w.heap.size < wr.heap.size := hG.lt
      have HB := Lib.hid (And.intro hG hbel)
      clear hmk hp hG hbel
      by_cases hlt : k < B.length
      · obtain ⟨b, off, cap', vw, vt, hv, hl1, hm1, hb, c0, c1, c2, c3, c4, c5, r1, r2⟩ := (HG.out.2.1.on HB.out.2).at_ hlt
        injection hv with e1 e2 e3
        subst e1
        have g0 := HB.out.1.cell 0
        have g1 := HB.out.1.cell 1
        have g2 := HB.out.1.cell 2
        have g3 := HB.out.1.cell 3
        have g4 := HB.out.1.cell 4
        have g5 := HB.out.1.cell 5
        have hcmd : CmdAt wr (cmdV B[k] vw vt) B[k] := ⟨vw, vt, rfl, r1, r2⟩
        obtain ⟨a4, n4, k4, rfl⟩ := Slc.of_readsK r1
        obtain ⟨a5, n5, k5, rfl⟩ := Slc.of_reads r2
        have HC := Lib.hid hcmd
        have hsn := @sub_snoc R B C k hlt HM.out.2
        have hbd := @sub_bad M R F B C k hlt
        generalize hcd : B[k] = c at *
        have HS := Lib.hid (And.intro hsn hbd)
        have hb0 : Below w.heap.size w (wr.alloc (.cells #[.int .i64 c.1, .int .i64 c.2.1, .int .i64 (kindC c), .slice a4 n4 k4, .int .i64 (repC c), .slice a5 n5 k5] 52)) := HB.out.2.alloc HB.out.2.size _
        have HW := Lib.hid hb0
        clear hcmd r1 r2 hsn hbd hcd e2 e3 hb0
        go_wp2_with fail
        refine (configures_any _ _ M R F c _ (HG.out.1.on HW.out) (HC.out.on ((Below.refl _ _).alloc (Nat.le_refl _) _))).mono ?_
        rintro e w1 ⟨rfl, hb1⟩
        have hz1 := hb1.size
        simp at hz1
        have H1 : Hid (Below w.heap.size w w1 ∧ Blk w1 w.heap.size 25 #[.int .i64 M, .int .i64 R, .slice a1 n1 k1, .int .i64 cl, .slice a2 n2 k2, .slice a3 n3 k3] ∧ CmdIn w1 wr.heap.size c) :=
          Lib.hid ⟨HW.out.trans (hb1.mono HW.out.size), (HB.out.1.alloc _).on hb1, ⟨_, _, (Blk.new wr _ _).on hb1, (HC.out.on ((Below.refl _ _).alloc (Nat.le_refl _) _)).on hb1⟩⟩
        clear hb1
        by_cases hcf : confB R c = true
        · rw [hcf]
          have HCF := Lib.hid hcf
          clear hcf
          go_wp2_with fail
          refine (containsFunc_any vC C wr.heap.size c _ (HG.out.2.2.on H1.out.1) H1.out.2.2).mono ?_
          rintro e w2 ⟨rfl, hb2⟩
          have H2 := Lib.hid (And.intro (H1.out.1.trans (hb2.mono H1.out.1.size)) (H1.out.2.1.on hb2))
          clear hb2
          by_cases hmem : c ∈ C
          · rw [decide_eq_true hmem]
            have HE := Lib.hid (HS.out.1 (fun _ => hmem))
            clear hmem
            go_wp2
            go_roundg (B.length - (k + 1))
            case measure => have := HM.out.1; omega
            case rel => exact ⟨k + 1, by omega, rfl, rfl, by go_num, HE.out, H2.out.2, H2.out.1⟩
          · rw [decide_eq_false hmem]
            have HE := Lib.hid (HS.out.2 HCF.out hmem)
            clear hmem
            go_wp2
            go_ret3
            exact none_made HE.out H2.out.1
        · have hcf := Bool.eq_false_iff.2 hcf
          rw [hcf]
          have HE := Lib.hid (HS.out.1 (fun h => by rw [hcf] at h; cases h))
          clear hcf
          go_wp2
          go_roundg (B.length - (k + 1))
          case measure => have := HM.out.1; omega
          case rel => exact ⟨k + 1, by omega, rfl, rfl, by go_num, HE.out, H1.out.2.1, H1.out.1⟩
      · have hok : okB M R F B C = true := ok_mk HU.out.2 (by have := HM.out.2; rwa [List.take_of_length_le (by omega)] at this)
        have HOK := Lib.hid hok
        clear hok
        go_upto_region 9 with fail
        have hcB := fun W (hb : Below w.heap.size w W) => recordOf_any _ (.slice ao B.length cap) M R F B W (HG.out.1.on hb) (HG.out.2.1.on hb) hR2
        have hcC := fun W (hb : Below w.heap.size w W) => recordOf_any _ vC M R F C W (HG.out.1.on hb) (HG.out.2.2.on hb) hR2
        unfold RecMade at hcB hcC
        have iB := recA_info R B
        have iC := recA_info R C
        have zB := zero_size R B
        have zC := zero_size R C
        have oB := recA_one R B
        have oC := recA_one R C
        generalize hrB : recA R B = rB at *
        generalize hrC : recA R C = rC at *
        have HCR := Lib.hid (And.intro hcB (And.intro hcC (And.intro (And.intro iB (And.intro zB oB)) (And.intro iC (And.intro zC oC)))))
        have HRR := Lib.hid (And.intro hrB hrC)
        clear hcB hcC iB iC zB zC oB oC hrB hrC
        go_cut [11, 12] (fun p q wx => ∃ g1 g2, p = .pointer (some ⟨g1, 0, none⟩) ∧ q = .pointer (some ⟨g2, 0, none⟩) ∧ Blk wx g1 58 rB ∧ Blk wx g2 58 rC ∧ Blk wx w.heap.size 25 #[.int .i64 M, .int .i64 R, .slice a1 n1 k1, .int .i64 cl, .slice a2 n2 k2, .slice a3 n3 k3] ∧ Below w.heap.size w wx)
        case first =>
          have hW0 := HB.out.1.drewN 1
          obtain ⟨w0, hw0⟩ : ∃ w0, w0 = wr.drew := ⟨_, rfl⟩
          refine wp_region_held_drew (S := fun w' => Blk w' w.heap.size 25 #[.int .i64 M, .int .i64 R, .slice a1 n1 k1, .int .i64 cl, .slice a2 n2 k2, .slice a3 n3 k3] ∧ Below w.heap.size w w') (by kernel_rfl) ⟨HB.out.1.drewN 1, HB.out.2.trans (below_drewN 1)⟩ (fun hHeld => ?_)
          rw [← hw0] at hHeld ⊢
          clear hw0 hW0
          refine wpAnyH_take (i := 0) (v := (.agg #[.int .i64 M, .int .i64 R, .slice a1 n1 k1, .int .i64 cl, .slice a2 n2 k2, .slice a3 n3 k3])) rfl (by kernel_rfl) (by kernel_rfl) (by kernel_rfl) (fun _ _ _ h => h) (Or.inl ⟨by rfl, ?y0⟩) hHeld ?_
          case y0 =>
            intro wx hS
            have g0 := hS.1.cell 0
            have g1 := hS.1.cell 1
            have g2 := hS.1.cell 2
            have g3 := hS.1.cell 3
            have g4 := hS.1.cell 4
            have g5 := hS.1.cell 5
            go_simp
          simp only [Act.put, List.setIfInBounds_toArray]
          refine wpAnyH_take (i := 1) (v := (.slice ao B.length cap)) rfl (by kernel_rfl) (by kernel_rfl) (by kernel_rfl) (fun _ _ _ h => h) (Or.inl ⟨by rfl, ?y1⟩) hHeld ?_
          case y1 =>
            intro wx hS
            go_simp
          simp only [Act.put]
          refine wpAnyH_take (i := 3) (v := (.agg #[.int .i64 M, .int .i64 R, .slice a1 n1 k1, .int .i64 cl, .slice a2 n2 k2, .slice a3 n3 k3])) rfl (by kernel_rfl) (by kernel_rfl) (by kernel_rfl) (fun _ _ _ h => h) (Or.inl ⟨by rfl, ?y3⟩) hHeld ?_
          case y3 =>
            intro wx hS
            have g0 := hS.1.cell 0
            have g1 := hS.1.cell 1
            have g2 := hS.1.cell 2
            have g3 := hS.1.cell 3
            have g4 := hS.1.cell 4
            have g5 := hS.1.cell 5
            go_simp
          simp only [Act.put]
          refine wpAnyH_take (i := 4) (v := vC) rfl (by kernel_rfl) (by kernel_rfl) (by kernel_rfl) (fun _ _ _ h => h) (Or.inl ⟨by rfl, ?y4⟩) hHeld ?_
          case y4 =>
            intro wx hS
            go_simp
          simp only [Act.put]
          refine wpAnyH_ready (rs := [2, 6, 7]) (by kernel_rfl) (by simp) ?_
          refine AllReadyH.cons rfl (fun K hK => ?_) ?_
          · simp only [List.getElem_toArray, List.getElem_cons_succ, List.getElem_cons_zero]
            rw [if_pos (by rfl)]
            go_simp
            refine (HCR.out.1 _ hHeld.2).mono ?_
            rintro e w1 ⟨rfl, hb1⟩
            go_simp
            refine hK.out _ _ ⟨hHeld.1.on hb1, hHeld.2.trans (hb1.mono hHeld.2.size)⟩ (fun hHeld => ?_)
            clear hK K
            try simp only [Act.put, List.setIfInBounds_toArray, List.set_cons_zero, List.set_cons_succ]
            refine wpAnyH_ready (rs := [5, 6, 7]) (by kernel_rfl) (by simp) ?_
            refine AllReadyH.cons rfl (fun K hK => ?_) ?_
            · simp only [List.getElem_toArray, List.getElem_cons_succ, List.getElem_cons_zero]
              rw [if_pos (by rfl)]
              go_simp
              refine (HCR.out.2.1 _ hHeld.2).mono ?_
              rintro e w2 ⟨rfl, hb2⟩
              go_simp
              refine hK.out _ _ ⟨hHeld.1.on hb2, hHeld.2.trans (hb2.mono hHeld.2.size)⟩ (fun hHeld => ?_)
              clear hK K
              try simp only [Act.put, List.setIfInBounds_toArray, List.set_cons_zero, List.set_cons_succ]
              refine wpAnyH_ready (rs := [6, 7]) (by kernel_rfl) (by simp) ?_
              refine AllReadyH.cons rfl (fun K hK => ?_) ?_
              · simp only [List.getElem_toArray, List.getElem_cons_succ, List.getElem_cons_zero]
                rw [if_pos (by rfl)]
                go_simp
                have lt3 := hHeld.1.lt
                refine hK.out _ _ ⟨hHeld.1.alloc _, hHeld.2.alloc hHeld.2.size _⟩ (fun hHeld => ?_)
                have x31 := Blk.new w2 58 #[.bool false, .bool false, .bool false, .bool false, .bool false, .bool false, .bool false, .bool false, .bool false, .bool false, .bool false, .bool false, .bool false, .bool false, .bool false, .bool false, .bool false, .bool false, .bool false, .bool false, .bool false, .bool false, .bool false, .bool false]
                clear hK K
                try simp only [Act.put, List.setIfInBounds_toArray, List.set_cons_zero, List.set_cons_succ]
                generalize hw3 : World.alloc w2 (.cells #[.bool false, .bool false, .bool false, .bool false, .bool false, .bool false, .bool false, .bool false, .bool false, .bool false, .bool false, .bool false, .bool false, .bool false, .bool false, .bool false, .bool false, .bool false, .bool false, .bool false, .bool false, .bool false, .bool false, .bool false] 58) = w3 at *
                refine wpAnyH_ready (rs := [7]) (by kernel_rfl) (by simp) ?_
                refine AllReadyH.cons rfl (fun K hK => ?_) ?_
                · simp only [List.getElem_toArray, List.getElem_cons_succ, List.getElem_cons_zero]
                  rw [if_pos (by rfl)]
                  go_simp
                  have lt4 := hHeld.1.lt
                  refine hK.out _ _ ⟨hHeld.1.alloc _, hHeld.2.alloc hHeld.2.size _⟩ (fun hHeld => ?_)
                  have x42 := Blk.new w3 58 #[.bool false, .bool false, .bool false, .bool false, .bool false, .bool false, .bool false, .bool false, .bool false, .bool false, .bool false, .bool false, .bool false, .bool false, .bool false, .bool false, .bool false, .bool false, .bool false, .bool false, .bool false, .bool false, .bool false, .bool false]
                  have n4 := Nat.ne_of_lt x31.lt
                  have x41 := x31.alloc (.cells #[.bool false, .bool false, .bool false, .bool false, .bool false, .bool false, .bool false, .bool false, .bool false, .bool false, .bool false, .bool false, .bool false, .bool false, .bool false, .bool false, .bool false, .bool false, .bool false, .bool false, .bool false, .bool false, .bool false, .bool false] 58)
                  clear hK K
                  try simp only [Act.put, List.setIfInBounds_toArray, List.set_cons_zero, List.set_cons_succ]
                  generalize hw4 : World.alloc w3 (.cells #[.bool false, .bool false, .bool false, .bool false, .bool false, .bool false, .bool false, .bool false, .bool false, .bool false, .bool false, .bool false, .bool false, .bool false, .bool false, .bool false, .bool false, .bool false, .bool false, .bool false, .bool false, .bool false, .bool false, .bool false] 58) = w4 at *
                  refine wpAnyH_ready (rs := [8]) (by kernel_rfl) (by simp) ?_
                  refine AllReadyH.cons (o := { dst := none, op := .store 58 (.tmp 11) (.tmp 36), type := 0, pos := "config.go:91", after := #[{ on := 6, ground := .data }, { on := 2, ground := .data }, { on := 5, ground := .chain }, { on := 0, ground := .phase }, { on := 1, ground := .phase }, { on := 2, ground := .phase }, { on := 3, ground := .textOnly .lateStores }, { on := 4, ground := .textOnly .lateStores }, { on := 5, ground := .textOnly .lateStoresUnsure }, { on := 6, ground := .phase }, { on := 7, ground := .phase }], guard := none }) rfl (fun K hK => ?_) ?_
                  · skip
                    rw [if_pos (by rfl)]
                    refine wp_store_blk 58 (.tmp 11) (.tmp 36) (by rfl) w2.heap.size 58 _ rB (by rfl) (by rfl) x41 HCR.out.2.2.1.1 HCR.out.2.2.1.2.1 HCR.out.2.2.1.2.2 ?_
                    intro w5 b5 z5 k5 q5
                    refine hK.out _ _ ⟨q5 _ _ _ (Nat.ne_of_lt lt3) hHeld.1, k5 _ _ (Nat.le_of_lt lt3) hHeld.2⟩ (fun hHeld => ?_)
                    have x52 := q5 _ _ _ (Ne.symm n4) x42
                    clear hK K
                    try simp only [Act.put]
                    refine wpAnyH_ready (rs := [9]) (by kernel_rfl) (by simp) ?_
                    refine AllReadyH.cons (o := { dst := none, op := .store 58 (.tmp 12) (.tmp 39), type := 0, pos := "config.go:91", after := #[{ on := 7, ground := .data }, { on := 5, ground := .data }, { on := 8, ground := .chain }, { on := 0, ground := .phase }, { on := 1, ground := .phase }, { on := 2, ground := .phase }, { on := 3, ground := .phase }, { on := 4, ground := .phase }, { on := 5, ground := .phase }, { on := 6, ground := .phase }, { on := 7, ground := .phase }, { on := 8, ground := .phase }], guard := none }) rfl (fun K hK => ?_) ?_
                    · skip
                      rw [if_pos (by rfl)]
                      refine wp_store_blk 58 (.tmp 12) (.tmp 39) (by rfl) w3.heap.size 58 _ rC (by rfl) (by rfl) x52 HCR.out.2.2.2.1 HCR.out.2.2.2.2.1 HCR.out.2.2.2.2.2 ?_
                      intro w6 b6 z6 k6 q6
                      refine hK.out _ _ ⟨q6 _ _ _ (Nat.ne_of_lt lt4) hHeld.1, k6 _ _ (Nat.le_of_lt lt4) hHeld.2⟩ (fun hHeld => ?_)
                      have x61 := q6 _ _ _ n4 b5
                      clear hK K
                      try simp only [Act.put]
                      refine wpAnyH_done (by kernel_rfl) ?_ _
                      go_wp2_with fail
                      go_meet
                      exact ⟨w2.heap.size, w3.heap.size, rfl, rfl, x61, b6, hHeld.1, hHeld.2⟩
                    exact AllReadyH.nil
                  exact AllReadyH.nil
                exact AllReadyH.nil
              refine AllReadyH.cons rfl (fun K hK => ?_) ?_
              · simp only [List.getElem_toArray, List.getElem_cons_succ, List.getElem_cons_zero]
                rw [if_pos (by rfl)]
                go_simp
                have lt7 := hHeld.1.lt
                refine hK.out _ _ ⟨hHeld.1.alloc _, hHeld.2.alloc hHeld.2.size _⟩ (fun hHeld => ?_)
                have x72 := Blk.new w2 58 #[.bool false, .bool false, .bool false, .bool false, .bool false, .bool false, .bool false, .bool false, .bool false, .bool false, .bool false, .bool false, .bool false, .bool false, .bool false, .bool false, .bool false, .bool false, .bool false, .bool false, .bool false, .bool false, .bool false, .bool false]
                clear hK K
                try simp only [Act.put, List.setIfInBounds_toArray, List.set_cons_zero, List.set_cons_succ]
                generalize hw7 : World.alloc w2 (.cells #[.bool false, .bool false, .bool false, .bool false, .bool false, .bool false, .bool false, .bool false, .bool false, .bool false, .bool false, .bool false, .bool false, .bool false, .bool false, .bool false, .bool false, .bool false, .bool false, .bool false, .bool false, .bool false, .bool false, .bool false] 58) = w7 at *
                refine wpAnyH_ready (rs := [6]) (by kernel_rfl) (by simp) ?_
                refine AllReadyH.cons rfl (fun K hK => ?_) ?_
                · simp only [List.getElem_toArray, List.getElem_cons_succ, List.getElem_cons_zero]
                  rw [if_pos (by rfl)]
                  go_simp
                  have lt8 := hHeld.1.lt
                  refine hK.out _ _ ⟨hHeld.1.alloc _, hHeld.2.alloc hHeld.2.size _⟩ (fun hHeld => ?_)
                  have x81 := Blk.new w7 58 #[.bool false, .bool false, .bool false, .bool false, .bool false, .bool false, .bool false, .bool false, .bool false, .bool false, .bool false, .bool false, .bool false, .bool false, .bool false, .bool false, .bool false, .bool false, .bool false, .bool false, .bool false, .bool false, .bool false, .bool false]
                  have n8 := Nat.ne_of_lt x72.lt
                  have x82 := x72.alloc (.cells #[.bool false, .bool false, .bool false, .bool false, .bool false, .bool false, .bool false, .bool false, .bool false, .bool false, .bool false, .bool false, .bool false, .bool false, .bool false, .bool false, .bool false, .bool false, .bool false, .bool false, .bool false, .bool false, .bool false, .bool false] 58)
                  clear hK K
                  try simp only [Act.put, List.setIfInBounds_toArray, List.set_cons_zero, List.set_cons_succ]
                  generalize hw8 : World.alloc w7 (.cells #[.bool false, .bool false, .bool false, .bool false, .bool false, .bool false, .bool false, .bool false, .bool false, .bool false, .bool false, .bool false, .bool false, .bool false, .bool false, .bool false, .bool false, .bool false, .bool false, .bool false, .bool false, .bool false, .bool false, .bool false] 58) = w8 at *
                  refine wpAnyH_ready (rs := [8]) (by kernel_rfl) (by simp) ?_
                  refine AllReadyH.cons (o := { dst := none, op := .store 58 (.tmp 11) (.tmp 36), type := 0, pos := "config.go:91", after := #[{ on := 6, ground := .data }, { on := 2, ground := .data }, { on := 5, ground := .chain }, { on := 0, ground := .phase }, { on := 1, ground := .phase }, { on := 2, ground := .phase }, { on := 3, ground := .textOnly .lateStores }, { on := 4, ground := .textOnly .lateStores }, { on := 5, ground := .textOnly .lateStoresUnsure }, { on := 6, ground := .phase }, { on := 7, ground := .phase }], guard := none }) rfl (fun K hK => ?_) ?_
                  · skip
                    rw [if_pos (by rfl)]
                    refine wp_store_blk 58 (.tmp 11) (.tmp 36) (by rfl) w7.heap.size 58 _ rB (by rfl) (by rfl) x81 HCR.out.2.2.1.1 HCR.out.2.2.1.2.1 HCR.out.2.2.1.2.2 ?_
                    intro w9 b9 z9 k9 q9
                    refine hK.out _ _ ⟨q9 _ _ _ (Nat.ne_of_lt lt8) hHeld.1, k9 _ _ (Nat.le_of_lt lt8) hHeld.2⟩ (fun hHeld => ?_)
                    have x92 := q9 _ _ _ n8 x82
                    clear hK K
                    try simp only [Act.put]
                    refine wpAnyH_ready (rs := [9]) (by kernel_rfl) (by simp) ?_
                    refine AllReadyH.cons (o := { dst := none, op := .store 58 (.tmp 12) (.tmp 39), type := 0, pos := "config.go:91", after := #[{ on := 7, ground := .data }, { on := 5, ground := .data }, { on := 8, ground := .chain }, { on := 0, ground := .phase }, { on := 1, ground := .phase }, { on := 2, ground := .phase }, { on := 3, ground := .phase }, { on := 4, ground := .phase }, { on := 5, ground := .phase }, { on := 6, ground := .phase }, { on := 7, ground := .phase }, { on := 8, ground := .phase }], guard := none }) rfl (fun K hK => ?_) ?_
                    · skip
                      rw [if_pos (by rfl)]
                      refine wp_store_blk 58 (.tmp 12) (.tmp 39) (by rfl) w2.heap.size 58 _ rC (by rfl) (by rfl) x92 HCR.out.2.2.2.1 HCR.out.2.2.2.2.1 HCR.out.2.2.2.2.2 ?_
                      intro w10 b10 z10 k10 q10
                      refine hK.out _ _ ⟨q10 _ _ _ (Nat.ne_of_lt lt7) hHeld.1, k10 _ _ (Nat.le_of_lt lt7) hHeld.2⟩ (fun hHeld => ?_)
                      have x101 := q10 _ _ _ (Ne.symm n8) b9
                      clear hK K
                      try simp only [Act.put]
                      refine wpAnyH_done (by kernel_rfl) ?_ _
                      go_wp2_with fail
                      go_meet
                      exact ⟨w7.heap.size, w2.heap.size, rfl, rfl, x101, b10, hHeld.1, hHeld.2⟩
                    exact AllReadyH.nil
                  exact AllReadyH.nil
                exact AllReadyH.nil
              exact AllReadyH.nil
            refine AllReadyH.cons rfl (fun K hK => ?_) ?_
            · simp only [List.getElem_toArray, List.getElem_cons_succ, List.getElem_cons_zero]
              rw [if_pos (by rfl)]
              go_simp
              have lt11 := hHeld.1.lt
              refine hK.out _ _ ⟨hHeld.1.alloc _, hHeld.2.alloc hHeld.2.size _⟩ (fun hHeld => ?_)
              have x111 := Blk.new w1 58 #[.bool false, .bool false, .bool false, .bool false, .bool false, .bool false, .bool false, .bool false, .bool false, .bool false, .bool false, .bool false, .bool false, .bool false, .bool false, .bool false, .bool false, .bool false, .bool false, .bool false, .bool false, .bool false, .bool false, .bool false]
              clear hK K
              try simp only [Act.put, List.setIfInBounds_toArray, List.set_cons_zero, List.set_cons_succ]
              generalize hw11 : World.alloc w1 (.cells #[.bool false, .bool false, .bool false, .bool false, .bool false, .bool false, .bool false, .bool false, .bool false, .bool false, .bool false, .bool false, .bool false, .bool false, .bool false, .bool false, .bool false, .bool false, .bool false, .bool false, .bool false, .bool false, .bool false, .bool false] 58) = w11 at *
              refine wpAnyH_ready (rs := [5, 7]) (by kernel_rfl) (by simp) ?_
              refine AllReadyH.cons rfl (fun K hK => ?_) ?_
              · simp only [List.getElem_toArray, List.getElem_cons_succ, List.getElem_cons_zero]
                rw [if_pos (by rfl)]
                go_simp
                refine (HCR.out.2.1 _ hHeld.2).mono ?_
                rintro e w12 ⟨rfl, hb12⟩
                go_simp
                refine hK.out _ _ ⟨hHeld.1.on hb12, hHeld.2.trans (hb12.mono hHeld.2.size)⟩ (fun hHeld => ?_)
                have x121 := x111.on hb12
                clear hK K
                try simp only [Act.put, List.setIfInBounds_toArray, List.set_cons_zero, List.set_cons_succ]
                refine wpAnyH_ready (rs := [7]) (by kernel_rfl) (by simp) ?_
                refine AllReadyH.cons rfl (fun K hK => ?_) ?_
                · simp only [List.getElem_toArray, List.getElem_cons_succ, List.getElem_cons_zero]
                  rw [if_pos (by rfl)]
                  go_simp
                  have lt13 := hHeld.1.lt
                  refine hK.out _ _ ⟨hHeld.1.alloc _, hHeld.2.alloc hHeld.2.size _⟩ (fun hHeld => ?_)
                  have x132 := Blk.new w12 58 #[.bool false, .bool false, .bool false, .bool false, .bool false, .bool false, .bool false, .bool false, .bool false, .bool false, .bool false, .bool false, .bool false, .bool false, .bool false, .bool false, .bool false, .bool false, .bool false, .bool false, .bool false, .bool false, .bool false, .bool false]
                  have n13 := Nat.ne_of_lt x121.lt
                  have x131 := x121.alloc (.cells #[.bool false, .bool false, .bool false, .bool false, .bool false, .bool false, .bool false, .bool false, .bool false, .bool false, .bool false, .bool false, .bool false, .bool false, .bool false, .bool false, .bool false, .bool false, .bool false, .bool false, .bool false, .bool false, .bool false, .bool false] 58)
                  clear hK K
                  try simp only [Act.put, List.setIfInBounds_toArray, List.set_cons_zero, List.set_cons_succ]
                  generalize hw13 : World.alloc w12 (.cells #[.bool false, .bool false, .bool false, .bool false, .bool false, .bool false, .bool false, .bool false, .bool false, .bool false, .bool false, .bool false, .bool false, .bool false, .bool false, .bool false, .bool false, .bool false, .bool false, .bool false, .bool false, .bool false, .bool false, .bool false] 58) = w13 at *
                  refine wpAnyH_ready (rs := [8]) (by kernel_rfl) (by simp) ?_
                  refine AllReadyH.cons (o := { dst := none, op := .store 58 (.tmp 11) (.tmp 36), type := 0, pos := "config.go:91", after := #[{ on := 6, ground := .data }, { on := 2, ground := .data }, { on := 5, ground := .chain }, { on := 0, ground := .phase }, { on := 1, ground := .phase }, { on := 2, ground := .phase }, { on := 3, ground := .textOnly .lateStores }, { on := 4, ground := .textOnly .lateStores }, { on := 5, ground := .textOnly .lateStoresUnsure }, { on := 6, ground := .phase }, { on := 7, ground := .phase }], guard := none }) rfl (fun K hK => ?_) ?_
                  · skip
                    rw [if_pos (by rfl)]
                    refine wp_store_blk 58 (.tmp 11) (.tmp 36) (by rfl) w1.heap.size 58 _ rB (by rfl) (by rfl) x131 HCR.out.2.2.1.1 HCR.out.2.2.1.2.1 HCR.out.2.2.1.2.2 ?_
                    intro w14 b14 z14 k14 q14
                    refine hK.out _ _ ⟨q14 _ _ _ (Nat.ne_of_lt lt11) hHeld.1, k14 _ _ (Nat.le_of_lt lt11) hHeld.2⟩ (fun hHeld => ?_)
                    have x142 := q14 _ _ _ (Ne.symm n13) x132
                    clear hK K
                    try simp only [Act.put]
                    refine wpAnyH_ready (rs := [9]) (by kernel_rfl) (by simp) ?_
                    refine AllReadyH.cons (o := { dst := none, op := .store 58 (.tmp 12) (.tmp 39), type := 0, pos := "config.go:91", after := #[{ on := 7, ground := .data }, { on := 5, ground := .data }, { on := 8, ground := .chain }, { on := 0, ground := .phase }, { on := 1, ground := .phase }, { on := 2, ground := .phase }, { on := 3, ground := .phase }, { on := 4, ground := .phase }, { on := 5, ground := .phase }, { on := 6, ground := .phase }, { on := 7, ground := .phase }, { on := 8, ground := .phase }], guard := none }) rfl (fun K hK => ?_) ?_
                    · skip
                      rw [if_pos (by rfl)]
                      refine wp_store_blk 58 (.tmp 12) (.tmp 39) (by rfl) w12.heap.size 58 _ rC (by rfl) (by rfl) x142 HCR.out.2.2.2.1 HCR.out.2.2.2.2.1 HCR.out.2.2.2.2.2 ?_
                      intro w15 b15 z15 k15 q15
                      refine hK.out _ _ ⟨q15 _ _ _ (Nat.ne_of_lt lt13) hHeld.1, k15 _ _ (Nat.le_of_lt lt13) hHeld.2⟩ (fun hHeld => ?_)
                      have x151 := q15 _ _ _ n13 b14
                      clear hK K
                      try simp only [Act.put]
                      refine wpAnyH_done (by kernel_rfl) ?_ _
                      go_wp2_with fail
                      go_meet
                      exact ⟨w1.heap.size, w12.heap.size, rfl, rfl, x151, b15, hHeld.1, hHeld.2⟩
                    exact AllReadyH.nil
                  exact AllReadyH.nil
                exact AllReadyH.nil
              refine AllReadyH.cons rfl (fun K hK => ?_) ?_
              · simp only [List.getElem_toArray, List.getElem_cons_succ, List.getElem_cons_zero]
                rw [if_pos (by rfl)]
                go_simp
                have lt16 := hHeld.1.lt
                refine hK.out _ _ ⟨hHeld.1.alloc _, hHeld.2.alloc hHeld.2.size _⟩ (fun hHeld => ?_)
                have x162 := Blk.new w11 58 #[.bool false, .bool false, .bool false, .bool false, .bool false, .bool false, .bool false, .bool false, .bool false, .bool false, .bool false, .bool false, .bool false, .bool false, .bool false, .bool false, .bool false, .bool false, .bool false, .bool false, .bool false, .bool false, .bool false, .bool false]
                have n16 := Nat.ne_of_lt x111.lt
                have x161 := x111.alloc (.cells #[.bool false, .bool false, .bool false, .bool false, .bool false, .bool false, .bool false, .bool false, .bool false, .bool false, .bool false, .bool false, .bool false, .bool false, .bool false, .bool false, .bool false, .bool false, .bool false, .bool false, .bool false, .bool false, .bool false, .bool false] 58)
                clear hK K
                try simp only [Act.put, List.setIfInBounds_toArray, List.set_cons_zero, List.set_cons_succ]
                generalize hw16 : World.alloc w11 (.cells #[.bool false, .bool false, .bool false, .bool false, .bool false, .bool false, .bool false, .bool false, .bool false, .bool false, .bool false, .bool false, .bool false, .bool false, .bool false, .bool false, .bool false, .bool false, .bool false, .bool false, .bool false, .bool false, .bool false, .bool false] 58) = w16 at *
                refine wpAnyH_ready (rs := [5]) (by kernel_rfl) (by simp) ?_
                refine AllReadyH.cons rfl (fun K hK => ?_) ?_
                · simp only [List.getElem_toArray, List.getElem_cons_succ, List.getElem_cons_zero]
                  rw [if_pos (by rfl)]
                  go_simp
                  refine (HCR.out.2.1 _ hHeld.2).mono ?_
                  rintro e w17 ⟨rfl, hb17⟩
                  go_simp
                  refine hK.out _ _ ⟨hHeld.1.on hb17, hHeld.2.trans (hb17.mono hHeld.2.size)⟩ (fun hHeld => ?_)
                  have x171 := x161.on hb17
                  have x172 := x162.on hb17
                  clear hK K
                  try simp only [Act.put, List.setIfInBounds_toArray, List.set_cons_zero, List.set_cons_succ]
                  refine wpAnyH_ready (rs := [8]) (by kernel_rfl) (by simp) ?_
                  refine AllReadyH.cons (o := { dst := none, op := .store 58 (.tmp 11) (.tmp 36), type := 0, pos := "config.go:91", after := #[{ on := 6, ground := .data }, { on := 2, ground := .data }, { on := 5, ground := .chain }, { on := 0, ground := .phase }, { on := 1, ground := .phase }, { on := 2, ground := .phase }, { on := 3, ground := .textOnly .lateStores }, { on := 4, ground := .textOnly .lateStores }, { on := 5, ground := .textOnly .lateStoresUnsure }, { on := 6, ground := .phase }, { on := 7, ground := .phase }], guard := none }) rfl (fun K hK => ?_) ?_
                  · skip
                    rw [if_pos (by rfl)]
                    refine wp_store_blk 58 (.tmp 11) (.tmp 36) (by rfl) w1.heap.size 58 _ rB (by rfl) (by rfl) x171 HCR.out.2.2.1.1 HCR.out.2.2.1.2.1 HCR.out.2.2.1.2.2 ?_
                    intro w18 b18 z18 k18 q18
                    refine hK.out _ _ ⟨q18 _ _ _ (Nat.ne_of_lt lt11) hHeld.1, k18 _ _ (Nat.le_of_lt lt11) hHeld.2⟩ (fun hHeld => ?_)
                    have x182 := q18 _ _ _ (Ne.symm n16) x172
                    clear hK K
                    try simp only [Act.put]
                    refine wpAnyH_ready (rs := [9]) (by kernel_rfl) (by simp) ?_
                    refine AllReadyH.cons (o := { dst := none, op := .store 58 (.tmp 12) (.tmp 39), type := 0, pos := "config.go:91", after := #[{ on := 7, ground := .data }, { on := 5, ground := .data }, { on := 8, ground := .chain }, { on := 0, ground := .phase }, { on := 1, ground := .phase }, { on := 2, ground := .phase }, { on := 3, ground := .phase }, { on := 4, ground := .phase }, { on := 5, ground := .phase }, { on := 6, ground := .phase }, { on := 7, ground := .phase }, { on := 8, ground := .phase }], guard := none }) rfl (fun K hK => ?_) ?_
                    · skip
                      rw [if_pos (by rfl)]
                      refine wp_store_blk 58 (.tmp 12) (.tmp 39) (by rfl) w11.heap.size 58 _ rC (by rfl) (by rfl) x182 HCR.out.2.2.2.1 HCR.out.2.2.2.2.1 HCR.out.2.2.2.2.2 ?_
                      intro w19 b19 z19 k19 q19
                      refine hK.out _ _ ⟨q19 _ _ _ (Nat.ne_of_lt lt16) hHeld.1, k19 _ _ (Nat.le_of_lt lt16) hHeld.2⟩ (fun hHeld => ?_)
                      have x191 := q19 _ _ _ n16 b18
                      clear hK K
                      try simp only [Act.put]
                      refine wpAnyH_done (by kernel_rfl) ?_ _
                      go_wp2_with fail
                      go_meet
                      exact ⟨w1.heap.size, w11.heap.size, rfl, rfl, x191, b19, hHeld.1, hHeld.2⟩
                    exact AllReadyH.nil
                  exact AllReadyH.nil
                exact AllReadyH.nil
              exact AllReadyH.nil
            refine AllReadyH.cons rfl (fun K hK => ?_) ?_
            · simp only [List.getElem_toArray, List.getElem_cons_succ, List.getElem_cons_zero]
              rw [if_pos (by rfl)]
              go_simp
              have lt20 := hHeld.1.lt
              refine hK.out _ _ ⟨hHeld.1.alloc _, hHeld.2.alloc hHeld.2.size _⟩ (fun hHeld => ?_)
              have x202 := Blk.new w1 58 #[.bool false, .bool false, .bool false, .bool false, .bool false, .bool false, .bool false, .bool false, .bool false, .bool false, .bool false, .bool false, .bool false, .bool false, .bool false, .bool false, .bool false, .bool false, .bool false, .bool false, .bool false, .bool false, .bool false, .bool false]
              clear hK K
              try simp only [Act.put, List.setIfInBounds_toArray, List.set_cons_zero, List.set_cons_succ]
              generalize hw20 : World.alloc w1 (.cells #[.bool false, .bool false, .bool false, .bool false, .bool false, .bool false, .bool false, .bool false, .bool false, .bool false, .bool false, .bool false, .bool false, .bool false, .bool false, .bool false, .bool false, .bool false, .bool false, .bool false, .bool false, .bool false, .bool false, .bool false] 58) = w20 at *
              refine wpAnyH_ready (rs := [5, 6]) (by kernel_rfl) (by simp) ?_
              refine AllReadyH.cons rfl (fun K hK => ?_) ?_
              · simp only [List.getElem_toArray, List.getElem_cons_succ, List.getElem_cons_zero]
                rw [if_pos (by rfl)]
                go_simp
                refine (HCR.out.2.1 _ hHeld.2).mono ?_
                rintro e w21 ⟨rfl, hb21⟩
                go_simp
                refine hK.out _ _ ⟨hHeld.1.on hb21, hHeld.2.trans (hb21.mono hHeld.2.size)⟩ (fun hHeld => ?_)
                have x212 := x202.on hb21
                clear hK K
                try simp only [Act.put, List.setIfInBounds_toArray, List.set_cons_zero, List.set_cons_succ]
                refine wpAnyH_ready (rs := [6]) (by kernel_rfl) (by simp) ?_
                refine AllReadyH.cons rfl (fun K hK => ?_) ?_
                · simp only [List.getElem_toArray, List.getElem_cons_succ, List.getElem_cons_zero]
                  rw [if_pos (by rfl)]
                  go_simp
                  have lt22 := hHeld.1.lt
                  refine hK.out _ _ ⟨hHeld.1.alloc _, hHeld.2.alloc hHeld.2.size _⟩ (fun hHeld => ?_)
                  have x221 := Blk.new w21 58 #[.bool false, .bool false, .bool false, .bool false, .bool false, .bool false, .bool false, .bool false, .bool false, .bool false, .bool false, .bool false, .bool false, .bool false, .bool false, .bool false, .bool false, .bool false, .bool false, .bool false, .bool false, .bool false, .bool false, .bool false]
                  have n22 := Nat.ne_of_lt x212.lt
                  have x222 := x212.alloc (.cells #[.bool false, .bool false, .bool false, .bool false, .bool false, .bool false, .bool false, .bool false, .bool false, .bool false, .bool false, .bool false, .bool false, .bool false, .bool false, .bool false, .bool false, .bool false, .bool false, .bool false, .bool false, .bool false, .bool false, .bool false] 58)
                  clear hK K
                  try simp only [Act.put, List.setIfInBounds_toArray, List.set_cons_zero, List.set_cons_succ]
                  generalize hw22 : World.alloc w21 (.cells #[.bool false, .bool false, .bool false, .bool false, .bool false, .bool false, .bool false, .bool false, .bool false, .bool false, .bool false, .bool false, .bool false, .bool false, .bool false, .bool false, .bool false, .bool false, .bool false, .bool false, .bool false, .bool false, .bool false, .bool false] 58) = w22 at *
                  refine wpAnyH_ready (rs := [8]) (by kernel_rfl) (by simp) ?_
                  refine AllReadyH.cons (o := { dst := none, op := .store 58 (.tmp 11) (.tmp 36), type := 0, pos := "config.go:91", after := #[{ on := 6, ground := .data }, { on := 2, ground := .data }, { on := 5, ground := .chain }, { on := 0, ground := .phase }, { on := 1, ground := .phase }, { on := 2, ground := .phase }, { on := 3, ground := .textOnly .lateStores }, { on := 4, ground := .textOnly .lateStores }, { on := 5, ground := .textOnly .lateStoresUnsure }, { on := 6, ground := .phase }, { on := 7, ground := .phase }], guard := none }) rfl (fun K hK => ?_) ?_
                  · skip
                    rw [if_pos (by rfl)]
                    refine wp_store_blk 58 (.tmp 11) (.tmp 36) (by rfl) w21.heap.size 58 _ rB (by rfl) (by rfl) x221 HCR.out.2.2.1.1 HCR.out.2.2.1.2.1 HCR.out.2.2.1.2.2 ?_
                    intro w23 b23 z23 k23 q23
                    refine hK.out _ _ ⟨q23 _ _ _ (Nat.ne_of_lt lt22) hHeld.1, k23 _ _ (Nat.le_of_lt lt22) hHeld.2⟩ (fun hHeld => ?_)
                    have x232 := q23 _ _ _ n22 x222
                    clear hK K
                    try simp only [Act.put]
                    refine wpAnyH_ready (rs := [9]) (by kernel_rfl) (by simp) ?_
                    refine AllReadyH.cons (o := { dst := none, op := .store 58 (.tmp 12) (.tmp 39), type := 0, pos := "config.go:91", after := #[{ on := 7, ground := .data }, { on := 5, ground := .data }, { on := 8, ground := .chain }, { on := 0, ground := .phase }, { on := 1, ground := .phase }, { on := 2, ground := .phase }, { on := 3, ground := .phase }, { on := 4, ground := .phase }, { on := 5, ground := .phase }, { on := 6, ground := .phase }, { on := 7, ground := .phase }, { on := 8, ground := .phase }], guard := none }) rfl (fun K hK => ?_) ?_
                    · skip
                      rw [if_pos (by rfl)]
                      refine wp_store_blk 58 (.tmp 12) (.tmp 39) (by rfl) w1.heap.size 58 _ rC (by rfl) (by rfl) x232 HCR.out.2.2.2.1 HCR.out.2.2.2.2.1 HCR.out.2.2.2.2.2 ?_
                      intro w24 b24 z24 k24 q24
                      refine hK.out _ _ ⟨q24 _ _ _ (Nat.ne_of_lt lt20) hHeld.1, k24 _ _ (Nat.le_of_lt lt20) hHeld.2⟩ (fun hHeld => ?_)
                      have x241 := q24 _ _ _ (Ne.symm n22) b23
                      clear hK K
                      try simp only [Act.put]
                      refine wpAnyH_done (by kernel_rfl) ?_ _
                      go_wp2_with fail
                      go_meet
                      exact ⟨w21.heap.size, w1.heap.size, rfl, rfl, x241, b24, hHeld.1, hHeld.2⟩
                    exact AllReadyH.nil
                  exact AllReadyH.nil
                exact AllReadyH.nil
              refine AllReadyH.cons rfl (fun K hK => ?_) ?_
              · simp only [List.getElem_toArray, List.getElem_cons_succ, List.getElem_cons_zero]
                rw [if_pos (by rfl)]
                go_simp
                have lt25 := hHeld.1.lt
                refine hK.out _ _ ⟨hHeld.1.alloc _, hHeld.2.alloc hHeld.2.size _⟩ (fun hHeld => ?_)
                have x251 := Blk.new w20 58 #[.bool false, .bool false, .bool false, .bool false, .bool false, .bool false, .bool false, .bool false, .bool false, .bool false, .bool false, .bool false, .bool false, .bool false, .bool false, .bool false, .bool false, .bool false, .bool false, .bool false, .bool false, .bool false, .bool false, .bool false]
                have n25 := Nat.ne_of_lt x202.lt
                have x252 := x202.alloc (.cells #[.bool false, .bool false, .bool false, .bool false, .bool false, .bool false, .bool false, .bool false, .bool false, .bool false, .bool false, .bool false, .bool false, .bool false, .bool false, .bool false, .bool false, .bool false, .bool false, .bool false, .bool false, .bool false, .bool false, .bool false] 58)
                clear hK K
                try simp only [Act.put, List.setIfInBounds_toArray, List.set_cons_zero, List.set_cons_succ]
                generalize hw25 : World.alloc w20 (.cells #[.bool false, .bool false, .bool false, .bool false, .bool false, .bool false, .bool false, .bool false, .bool false, .bool false, .bool false, .bool false, .bool false, .bool false, .bool false, .bool false, .bool false, .bool false, .bool false, .bool false, .bool false, .bool false, .bool false, .bool false] 58) = w25 at *
                refine wpAnyH_ready (rs := [5]) (by kernel_rfl) (by simp) ?_
                refine AllReadyH.cons rfl (fun K hK => ?_) ?_
                · simp only [List.getElem_toArray, List.getElem_cons_succ, List.getElem_cons_zero]
                  rw [if_pos (by rfl)]
                  go_simp
                  refine (HCR.out.2.1 _ hHeld.2).mono ?_
                  rintro e w26 ⟨rfl, hb26⟩
                  go_simp
                  refine hK.out _ _ ⟨hHeld.1.on hb26, hHeld.2.trans (hb26.mono hHeld.2.size)⟩ (fun hHeld => ?_)
                  have x261 := x251.on hb26
                  have x262 := x252.on hb26
                  clear hK K
                  try simp only [Act.put, List.setIfInBounds_toArray, List.set_cons_zero, List.set_cons_succ]
                  refine wpAnyH_ready (rs := [8]) (by kernel_rfl) (by simp) ?_
                  refine AllReadyH.cons (o := { dst := none, op := .store 58 (.tmp 11) (.tmp 36), type := 0, pos := "config.go:91", after := #[{ on := 6, ground := .data }, { on := 2, ground := .data }, { on := 5, ground := .chain }, { on := 0, ground := .phase }, { on := 1, ground := .phase }, { on := 2, ground := .phase }, { on := 3, ground := .textOnly .lateStores }, { on := 4, ground := .textOnly .lateStores }, { on := 5, ground := .textOnly .lateStoresUnsure }, { on := 6, ground := .phase }, { on := 7, ground := .phase }], guard := none }) rfl (fun K hK => ?_) ?_
                  · skip
                    rw [if_pos (by rfl)]
                    refine wp_store_blk 58 (.tmp 11) (.tmp 36) (by rfl) w20.heap.size 58 _ rB (by rfl) (by rfl) x261 HCR.out.2.2.1.1 HCR.out.2.2.1.2.1 HCR.out.2.2.1.2.2 ?_
                    intro w27 b27 z27 k27 q27
                    refine hK.out _ _ ⟨q27 _ _ _ (Nat.ne_of_lt lt25) hHeld.1, k27 _ _ (Nat.le_of_lt lt25) hHeld.2⟩ (fun hHeld => ?_)
                    have x272 := q27 _ _ _ n25 x262
                    clear hK K
                    try simp only [Act.put]
                    refine wpAnyH_ready (rs := [9]) (by kernel_rfl) (by simp) ?_
                    refine AllReadyH.cons (o := { dst := none, op := .store 58 (.tmp 12) (.tmp 39), type := 0, pos := "config.go:91", after := #[{ on := 7, ground := .data }, { on := 5, ground := .data }, { on := 8, ground := .chain }, { on := 0, ground := .phase }, { on := 1, ground := .phase }, { on := 2, ground := .phase }, { on := 3, ground := .phase }, { on := 4, ground := .phase }, { on := 5, ground := .phase }, { on := 6, ground := .phase }, { on := 7, ground := .phase }, { on := 8, ground := .phase }], guard := none }) rfl (fun K hK => ?_) ?_
                    · skip
                      rw [if_pos (by rfl)]
                      refine wp_store_blk 58 (.tmp 12) (.tmp 39) (by rfl) w1.heap.size 58 _ rC (by rfl) (by rfl) x272 HCR.out.2.2.2.1 HCR.out.2.2.2.2.1 HCR.out.2.2.2.2.2 ?_
                      intro w28 b28 z28 k28 q28
                      refine hK.out _ _ ⟨q28 _ _ _ (Nat.ne_of_lt lt20) hHeld.1, k28 _ _ (Nat.le_of_lt lt20) hHeld.2⟩ (fun hHeld => ?_)
                      have x281 := q28 _ _ _ (Ne.symm n25) b27
                      clear hK K
                      try simp only [Act.put]
                      refine wpAnyH_done (by kernel_rfl) ?_ _
                      go_wp2_with fail
                      go_meet
                      exact ⟨w20.heap.size, w1.heap.size, rfl, rfl, x281, b28, hHeld.1, hHeld.2⟩
                    exact AllReadyH.nil
                  exact AllReadyH.nil
                exact AllReadyH.nil
              exact AllReadyH.nil
            exact AllReadyH.nil
          refine AllReadyH.cons rfl (fun K hK => ?_) ?_
          · simp only [List.getElem_toArray, List.getElem_cons_succ, List.getElem_cons_zero]
            rw [if_pos (by rfl)]
            go_simp
            have lt29 := hHeld.1.lt
            refine hK.out _ _ ⟨hHeld.1.alloc _, hHeld.2.alloc hHeld.2.size _⟩ (fun hHeld => ?_)
            have x291 := Blk.new w0 58 #[.bool false, .bool false, .bool false, .bool false, .bool false, .bool false, .bool false, .bool false, .bool false, .bool false, .bool false, .bool false, .bool false, .bool false, .bool false, .bool false, .bool false, .bool false, .bool false, .bool false, .bool false, .bool false, .bool false, .bool false]
            clear hK K
            try simp only [Act.put, List.setIfInBounds_toArray, List.set_cons_zero, List.set_cons_succ]
            generalize hw29 : World.alloc w0 (.cells #[.bool false, .bool false, .bool false, .bool false, .bool false, .bool false, .bool false, .bool false, .bool false, .bool false, .bool false, .bool false, .bool false, .bool false, .bool false, .bool false, .bool false, .bool false, .bool false, .bool false, .bool false, .bool false, .bool false, .bool false] 58) = w29 at *
            refine wpAnyH_ready (rs := [2, 7]) (by kernel_rfl) (by simp) ?_
            refine AllReadyH.cons rfl (fun K hK => ?_) ?_
            · simp only [List.getElem_toArray, List.getElem_cons_succ, List.getElem_cons_zero]
              rw [if_pos (by rfl)]
              go_simp
              refine (HCR.out.1 _ hHeld.2).mono ?_
              rintro e w30 ⟨rfl, hb30⟩
              go_simp
              refine hK.out _ _ ⟨hHeld.1.on hb30, hHeld.2.trans (hb30.mono hHeld.2.size)⟩ (fun hHeld => ?_)
              have x301 := x291.on hb30
              clear hK K
              try simp only [Act.put, List.setIfInBounds_toArray, List.set_cons_zero, List.set_cons_succ]
              refine wpAnyH_ready (rs := [5, 7]) (by kernel_rfl) (by simp) ?_
              refine AllReadyH.cons rfl (fun K hK => ?_) ?_
              · simp only [List.getElem_toArray, List.getElem_cons_succ, List.getElem_cons_zero]
                rw [if_pos (by rfl)]
                go_simp
                refine (HCR.out.2.1 _ hHeld.2).mono ?_
                rintro e w31 ⟨rfl, hb31⟩
                go_simp
                refine hK.out _ _ ⟨hHeld.1.on hb31, hHeld.2.trans (hb31.mono hHeld.2.size)⟩ (fun hHeld => ?_)
                have x311 := x301.on hb31
                clear hK K
                try simp only [Act.put, List.setIfInBounds_toArray, List.set_cons_zero, List.set_cons_succ]
                refine wpAnyH_ready (rs := [7]) (by kernel_rfl) (by simp) ?_
                refine AllReadyH.cons rfl (fun K hK => ?_) ?_
                · simp only [List.getElem_toArray, List.getElem_cons_succ, List.getElem_cons_zero]
                  rw [if_pos (by rfl)]
                  go_simp
                  have lt32 := hHeld.1.lt
                  refine hK.out _ _ ⟨hHeld.1.alloc _, hHeld.2.alloc hHeld.2.size _⟩ (fun hHeld => ?_)
                  have x322 := Blk.new w31 58 #[.bool false, .bool false, .bool false, .bool false, .bool false, .bool false, .bool false, .bool false, .bool false, .bool false, .bool false, .bool false, .bool false, .bool false, .bool false, .bool false, .bool false, .bool false, .bool false, .bool false, .bool false, .bool false, .bool false, .bool false]
                  have n32 := Nat.ne_of_lt x311.lt
                  have x321 := x311.alloc (.cells #[.bool false, .bool false, .bool false, .bool false, .bool false, .bool false, .bool false, .bool false, .bool false, .bool false, .bool false, .bool false, .bool false, .bool false, .bool false, .bool false, .bool false, .bool false, .bool false, .bool false, .bool false, .bool false, .bool false, .bool false] 58)
                  clear hK K
                  try simp only [Act.put, List.setIfInBounds_toArray, List.set_cons_zero, List.set_cons_succ]
                  generalize hw32 : World.alloc w31 (.cells #[.bool false, .bool false, .bool false, .bool false, .bool false, .bool false, .bool false, .bool false, .bool false, .bool false, .bool false, .bool false, .bool false, .bool false, .bool false, .bool false, .bool false, .bool false, .bool false, .bool false, .bool false, .bool false, .bool false, .bool false] 58) = w32 at *
                  refine wpAnyH_ready (rs := [8]) (by kernel_rfl) (by simp) ?_
                  refine AllReadyH.cons (o := { dst := none, op := .store 58 (.tmp 11) (.tmp 36), type := 0, pos := "config.go:91", after := #[{ on := 6, ground := .data }, { on := 2, ground := .data }, { on := 5, ground := .chain }, { on := 0, ground := .phase }, { on := 1, ground := .phase }, { on := 2, ground := .phase }, { on := 3, ground := .textOnly .lateStores }, { on := 4, ground := .textOnly .lateStores }, { on := 5, ground := .textOnly .lateStoresUnsure }, { on := 6, ground := .phase }, { on := 7, ground := .phase }], guard := none }) rfl (fun K hK => ?_) ?_
                  · skip
                    rw [if_pos (by rfl)]
                    refine wp_store_blk 58 (.tmp 11) (.tmp 36) (by rfl) w0.heap.size 58 _ rB (by rfl) (by rfl) x321 HCR.out.2.2.1.1 HCR.out.2.2.1.2.1 HCR.out.2.2.1.2.2 ?_
                    intro w33 b33 z33 k33 q33
                    refine hK.out _ _ ⟨q33 _ _ _ (Nat.ne_of_lt lt29) hHeld.1, k33 _ _ (Nat.le_of_lt lt29) hHeld.2⟩ (fun hHeld => ?_)
                    have x332 := q33 _ _ _ (Ne.symm n32) x322
                    clear hK K
                    try simp only [Act.put]
                    refine wpAnyH_ready (rs := [9]) (by kernel_rfl) (by simp) ?_
                    refine AllReadyH.cons (o := { dst := none, op := .store 58 (.tmp 12) (.tmp 39), type := 0, pos := "config.go:91", after := #[{ on := 7, ground := .data }, { on := 5, ground := .data }, { on := 8, ground := .chain }, { on := 0, ground := .phase }, { on := 1, ground := .phase }, { on := 2, ground := .phase }, { on := 3, ground := .phase }, { on := 4, ground := .phase }, { on := 5, ground := .phase }, { on := 6, ground := .phase }, { on := 7, ground := .phase }, { on := 8, ground := .phase }], guard := none }) rfl (fun K hK => ?_) ?_
                    · skip
                      rw [if_pos (by rfl)]
                      refine wp_store_blk 58 (.tmp 12) (.tmp 39) (by rfl) w31.heap.size 58 _ rC (by rfl) (by rfl) x332 HCR.out.2.2.2.1 HCR.out.2.2.2.2.1 HCR.out.2.2.2.2.2 ?_
                      intro w34 b34 z34 k34 q34
                      refine hK.out _ _ ⟨q34 _ _ _ (Nat.ne_of_lt lt32) hHeld.1, k34 _ _ (Nat.le_of_lt lt32) hHeld.2⟩ (fun hHeld => ?_)
                      have x341 := q34 _ _ _ n32 b33
                      clear hK K
                      try simp only [Act.put]
                      refine wpAnyH_done (by kernel_rfl) ?_ _
                      go_wp2_with fail
                      go_meet
                      exact ⟨w0.heap.size, w31.heap.size, rfl, rfl, x341, b34, hHeld.1, hHeld.2⟩
                    exact AllReadyH.nil
                  exact AllReadyH.nil
                exact AllReadyH.nil
              refine AllReadyH.cons rfl (fun K hK => ?_) ?_
              · simp only [List.getElem_toArray, List.getElem_cons_succ, List.getElem_cons_zero]
                rw [if_pos (by rfl)]
                go_simp
                have lt35 := hHeld.1.lt
                refine hK.out _ _ ⟨hHeld.1.alloc _, hHeld.2.alloc hHeld.2.size _⟩ (fun hHeld => ?_)
                have x352 := Blk.new w30 58 #[.bool false, .bool false, .bool false, .bool false, .bool false, .bool false, .bool false, .bool false, .bool false, .bool false, .bool false, .bool false, .bool false, .bool false, .bool false, .bool false, .bool false, .bool false, .bool false, .bool false, .bool false, .bool false, .bool false, .bool false]
                have n35 := Nat.ne_of_lt x301.lt
                have x351 := x301.alloc (.cells #[.bool false, .bool false, .bool false, .bool false, .bool false, .bool false, .bool false, .bool false, .bool false, .bool false, .bool false, .bool false, .bool false, .bool false, .bool false, .bool false, .bool false, .bool false, .bool false, .bool false, .bool false, .bool false, .bool false, .bool false] 58)
                clear hK K
                try simp only [Act.put, List.setIfInBounds_toArray, List.set_cons_zero, List.set_cons_succ]
                generalize hw35 : World.alloc w30 (.cells #[.bool false, .bool false, .bool false, .bool false, .bool false, .bool false, .bool false, .bool false, .bool false, .bool false, .bool false, .bool false, .bool false, .bool false, .bool false, .bool false, .bool false, .bool false, .bool false, .bool false, .bool false, .bool false, .bool false, .bool false] 58) = w35 at *
                refine wpAnyH_ready (rs := [5]) (by kernel_rfl) (by simp) ?_
                refine AllReadyH.cons rfl (fun K hK => ?_) ?_
                · simp only [List.getElem_toArray, List.getElem_cons_succ, List.getElem_cons_zero]
                  rw [if_pos (by rfl)]
                  go_simp
                  refine (HCR.out.2.1 _ hHeld.2).mono ?_
                  rintro e w36 ⟨rfl, hb36⟩
                  go_simp
                  refine hK.out _ _ ⟨hHeld.1.on hb36, hHeld.2.trans (hb36.mono hHeld.2.size)⟩ (fun hHeld => ?_)
                  have x361 := x351.on hb36
                  have x362 := x352.on hb36
                  clear hK K
                  try simp only [Act.put, List.setIfInBounds_toArray, List.set_cons_zero, List.set_cons_succ]
                  refine wpAnyH_ready (rs := [8]) (by kernel_rfl) (by simp) ?_
                  refine AllReadyH.cons (o := { dst := none, op := .store 58 (.tmp 11) (.tmp 36), type := 0, pos := "config.go:91", after := #[{ on := 6, ground := .data }, { on := 2, ground := .data }, { on := 5, ground := .chain }, { on := 0, ground := .phase }, { on := 1, ground := .phase }, { on := 2, ground := .phase }, { on := 3, ground := .textOnly .lateStores }, { on := 4, ground := .textOnly .lateStores }, { on := 5, ground := .textOnly .lateStoresUnsure }, { on := 6, ground := .phase }, { on := 7, ground := .phase }], guard := none }) rfl (fun K hK => ?_) ?_
                  · skip
                    rw [if_pos (by rfl)]
                    refine wp_store_blk 58 (.tmp 11) (.tmp 36) (by rfl) w0.heap.size 58 _ rB (by rfl) (by rfl) x361 HCR.out.2.2.1.1 HCR.out.2.2.1.2.1 HCR.out.2.2.1.2.2 ?_
                    intro w37 b37 z37 k37 q37
                    refine hK.out _ _ ⟨q37 _ _ _ (Nat.ne_of_lt lt29) hHeld.1, k37 _ _ (Nat.le_of_lt lt29) hHeld.2⟩ (fun hHeld => ?_)
                    have x372 := q37 _ _ _ (Ne.symm n35) x362
                    clear hK K
                    try simp only [Act.put]
                    refine wpAnyH_ready (rs := [9]) (by kernel_rfl) (by simp) ?_
                    refine AllReadyH.cons (o := { dst := none, op := .store 58 (.tmp 12) (.tmp 39), type := 0, pos := "config.go:91", after := #[{ on := 7, ground := .data }, { on := 5, ground := .data }, { on := 8, ground := .chain }, { on := 0, ground := .phase }, { on := 1, ground := .phase }, { on := 2, ground := .phase }, { on := 3, ground := .phase }, { on := 4, ground := .phase }, { on := 5, ground := .phase }, { on := 6, ground := .phase }, { on := 7, ground := .phase }, { on := 8, ground := .phase }], guard := none }) rfl (fun K hK => ?_) ?_
                    · skip
                      rw [if_pos (by rfl)]
                      refine wp_store_blk 58 (.tmp 12) (.tmp 39) (by rfl) w30.heap.size 58 _ rC (by rfl) (by rfl) x372 HCR.out.2.2.2.1 HCR.out.2.2.2.2.1 HCR.out.2.2.2.2.2 ?_
                      intro w38 b38 z38 k38 q38
                      refine hK.out _ _ ⟨q38 _ _ _ (Nat.ne_of_lt lt35) hHeld.1, k38 _ _ (Nat.le_of_lt lt35) hHeld.2⟩ (fun hHeld => ?_)
                      have x381 := q38 _ _ _ n35 b37
                      clear hK K
                      try simp only [Act.put]
                      refine wpAnyH_done (by kernel_rfl) ?_ _
                      go_wp2_with fail
                      go_meet
                      exact ⟨w0.heap.size, w30.heap.size, rfl, rfl, x381, b38, hHeld.1, hHeld.2⟩
                    exact AllReadyH.nil
                  exact AllReadyH.nil
                exact AllReadyH.nil
              exact AllReadyH.nil
            refine AllReadyH.cons rfl (fun K hK => ?_) ?_
            · simp only [List.getElem_toArray, List.getElem_cons_succ, List.getElem_cons_zero]
              rw [if_pos (by rfl)]
              go_simp
              have lt39 := hHeld.1.lt
              refine hK.out _ _ ⟨hHeld.1.alloc _, hHeld.2.alloc hHeld.2.size _⟩ (fun hHeld => ?_)
              have x392 := Blk.new w29 58 #[.bool false, .bool false, .bool false, .bool false, .bool false, .bool false, .bool false, .bool false, .bool false, .bool false, .bool false, .bool false, .bool false, .bool false, .bool false, .bool false, .bool false, .bool false, .bool false, .bool false, .bool false, .bool false, .bool false, .bool false]
              have n39 := Nat.ne_of_lt x291.lt
              have x391 := x291.alloc (.cells #[.bool false, .bool false, .bool false, .bool false, .bool false, .bool false, .bool false, .bool false, .bool false, .bool false, .bool false, .bool false, .bool false, .bool false, .bool false, .bool false, .bool false, .bool false, .bool false, .bool false, .bool false, .bool false, .bool false, .bool false] 58)
              clear hK K
              try simp only [Act.put, List.setIfInBounds_toArray, List.set_cons_zero, List.set_cons_succ]
              generalize hw39 : World.alloc w29 (.cells #[.bool false, .bool false, .bool false, .bool false, .bool false, .bool false, .bool false, .bool false, .bool false, .bool false, .bool false, .bool false, .bool false, .bool false, .bool false, .bool false, .bool false, .bool false, .bool false, .bool false, .bool false, .bool false, .bool false, .bool false] 58) = w39 at *
              refine wpAnyH_ready (rs := [2]) (by kernel_rfl) (by simp) ?_
              refine AllReadyH.cons rfl (fun K hK => ?_) ?_
              · simp only [List.getElem_toArray, List.getElem_cons_succ, List.getElem_cons_zero]
                rw [if_pos (by rfl)]
                go_simp
                refine (HCR.out.1 _ hHeld.2).mono ?_
                rintro e w40 ⟨rfl, hb40⟩
                go_simp
                refine hK.out _ _ ⟨hHeld.1.on hb40, hHeld.2.trans (hb40.mono hHeld.2.size)⟩ (fun hHeld => ?_)
                have x401 := x391.on hb40
                have x402 := x392.on hb40
                clear hK K
                try simp only [Act.put, List.setIfInBounds_toArray, List.set_cons_zero, List.set_cons_succ]
                refine wpAnyH_ready (rs := [5]) (by kernel_rfl) (by simp) ?_
                refine AllReadyH.cons rfl (fun K hK => ?_) ?_
                · simp only [List.getElem_toArray, List.getElem_cons_succ, List.getElem_cons_zero]
                  rw [if_pos (by rfl)]
                  go_simp
                  refine (HCR.out.2.1 _ hHeld.2).mono ?_
                  rintro e w41 ⟨rfl, hb41⟩
                  go_simp
                  refine hK.out _ _ ⟨hHeld.1.on hb41, hHeld.2.trans (hb41.mono hHeld.2.size)⟩ (fun hHeld => ?_)
                  have x411 := x401.on hb41
                  have x412 := x402.on hb41
                  clear hK K
                  try simp only [Act.put, List.setIfInBounds_toArray, List.set_cons_zero, List.set_cons_succ]
                  refine wpAnyH_ready (rs := [8]) (by kernel_rfl) (by simp) ?_
                  refine AllReadyH.cons (o := { dst := none, op := .store 58 (.tmp 11) (.tmp 36), type := 0, pos := "config.go:91", after := #[{ on := 6, ground := .data }, { on := 2, ground := .data }, { on := 5, ground := .chain }, { on := 0, ground := .phase }, { on := 1, ground := .phase }, { on := 2, ground := .phase }, { on := 3, ground := .textOnly .lateStores }, { on := 4, ground := .textOnly .lateStores }, { on := 5, ground := .textOnly .lateStoresUnsure }, { on := 6, ground := .phase }, { on := 7, ground := .phase }], guard := none }) rfl (fun K hK => ?_) ?_
                  · skip
                    rw [if_pos (by rfl)]
                    refine wp_store_blk 58 (.tmp 11) (.tmp 36) (by rfl) w0.heap.size 58 _ rB (by rfl) (by rfl) x411 HCR.out.2.2.1.1 HCR.out.2.2.1.2.1 HCR.out.2.2.1.2.2 ?_
                    intro w42 b42 z42 k42 q42
                    refine hK.out _ _ ⟨q42 _ _ _ (Nat.ne_of_lt lt29) hHeld.1, k42 _ _ (Nat.le_of_lt lt29) hHeld.2⟩ (fun hHeld => ?_)
                    have x422 := q42 _ _ _ (Ne.symm n39) x412
                    clear hK K
                    try simp only [Act.put]
                    refine wpAnyH_ready (rs := [9]) (by kernel_rfl) (by simp) ?_
                    refine AllReadyH.cons (o := { dst := none, op := .store 58 (.tmp 12) (.tmp 39), type := 0, pos := "config.go:91", after := #[{ on := 7, ground := .data }, { on := 5, ground := .data }, { on := 8, ground := .chain }, { on := 0, ground := .phase }, { on := 1, ground := .phase }, { on := 2, ground := .phase }, { on := 3, ground := .phase }, { on := 4, ground := .phase }, { on := 5, ground := .phase }, { on := 6, ground := .phase }, { on := 7, ground := .phase }, { on := 8, ground := .phase }], guard := none }) rfl (fun K hK => ?_) ?_
                    · skip
                      rw [if_pos (by rfl)]
                      refine wp_store_blk 58 (.tmp 12) (.tmp 39) (by rfl) w29.heap.size 58 _ rC (by rfl) (by rfl) x422 HCR.out.2.2.2.1 HCR.out.2.2.2.2.1 HCR.out.2.2.2.2.2 ?_
                      intro w43 b43 z43 k43 q43
                      refine hK.out _ _ ⟨q43 _ _ _ (Nat.ne_of_lt lt39) hHeld.1, k43 _ _ (Nat.le_of_lt lt39) hHeld.2⟩ (fun hHeld => ?_)
                      have x431 := q43 _ _ _ n39 b42
                      clear hK K
                      try simp only [Act.put]
                      refine wpAnyH_done (by kernel_rfl) ?_ _
                      go_wp2_with fail
                      go_meet
                      exact ⟨w0.heap.size, w29.heap.size, rfl, rfl, x431, b43, hHeld.1, hHeld.2⟩
                    exact AllReadyH.nil
                  exact AllReadyH.nil
                exact AllReadyH.nil
              exact AllReadyH.nil
            exact AllReadyH.nil
          refine AllReadyH.cons rfl (fun K hK => ?_) ?_
          · simp only [List.getElem_toArray, List.getElem_cons_succ, List.getElem_cons_zero]
            rw [if_pos (by rfl)]
            go_simp
            have lt44 := hHeld.1.lt
            refine hK.out _ _ ⟨hHeld.1.alloc _, hHeld.2.alloc hHeld.2.size _⟩ (fun hHeld => ?_)
            have x442 := Blk.new w0 58 #[.bool false, .bool false, .bool false, .bool false, .bool false, .bool false, .bool false, .bool false, .bool false, .bool false, .bool false, .bool false, .bool false, .bool false, .bool false, .bool false, .bool false, .bool false, .bool false, .bool false, .bool false, .bool false, .bool false, .bool false]
            clear hK K
            try simp only [Act.put, List.setIfInBounds_toArray, List.set_cons_zero, List.set_cons_succ]
            generalize hw44 : World.alloc w0 (.cells #[.bool false, .bool false, .bool false, .bool false, .bool false, .bool false, .bool false, .bool false, .bool false, .bool false, .bool false, .bool false, .bool false, .bool false, .bool false, .bool false, .bool false, .bool false, .bool false, .bool false, .bool false, .bool false, .bool false, .bool false] 58) = w44 at *
            refine wpAnyH_ready (rs := [2, 6]) (by kernel_rfl) (by simp) ?_
            refine AllReadyH.cons rfl (fun K hK => ?_) ?_
            · simp only [List.getElem_toArray, List.getElem_cons_succ, List.getElem_cons_zero]
              rw [if_pos (by rfl)]
              go_simp
              refine (HCR.out.1 _ hHeld.2).mono ?_
              rintro e w45 ⟨rfl, hb45⟩
              go_simp
              refine hK.out _ _ ⟨hHeld.1.on hb45, hHeld.2.trans (hb45.mono hHeld.2.size)⟩ (fun hHeld => ?_)
              have x452 := x442.on hb45
              clear hK K
              try simp only [Act.put, List.setIfInBounds_toArray, List.set_cons_zero, List.set_cons_succ]
              refine wpAnyH_ready (rs := [5, 6]) (by kernel_rfl) (by simp) ?_
              refine AllReadyH.cons rfl (fun K hK => ?_) ?_
              · simp only [List.getElem_toArray, List.getElem_cons_succ, List.getElem_cons_zero]
                rw [if_pos (by rfl)]
                go_simp
                refine (HCR.out.2.1 _ hHeld.2).mono ?_
                rintro e w46 ⟨rfl, hb46⟩
                go_simp
                refine hK.out _ _ ⟨hHeld.1.on hb46, hHeld.2.trans (hb46.mono hHeld.2.size)⟩ (fun hHeld => ?_)
                have x462 := x452.on hb46
                clear hK K
                try simp only [Act.put, List.setIfInBounds_toArray, List.set_cons_zero, List.set_cons_succ]
                refine wpAnyH_ready (rs := [6]) (by kernel_rfl) (by simp) ?_
                refine AllReadyH.cons rfl (fun K hK => ?_) ?_
                · simp only [List.getElem_toArray, List.getElem_cons_succ, List.getElem_cons_zero]
                  rw [if_pos (by rfl)]
                  go_simp
                  have lt47 := hHeld.1.lt
                  refine hK.out _ _ ⟨hHeld.1.alloc _, hHeld.2.alloc hHeld.2.size _⟩ (fun hHeld => ?_)
                  have x471 := Blk.new w46 58 #[.bool false, .bool false, .bool false, .bool false, .bool false, .bool false, .bool false, .bool false, .bool false, .bool false, .bool false, .bool false, .bool false, .bool false, .bool false, .bool false, .bool false, .bool false, .bool false, .bool false, .bool false, .bool false, .bool false, .bool false]
                  have n47 := Nat.ne_of_lt x462.lt
                  have x472 := x462.alloc (.cells #[.bool false, .bool false, .bool false, .bool false, .bool false, .bool false, .bool false, .bool false, .bool false, .bool false, .bool false, .bool false, .bool false, .bool false, .bool false, .bool false, .bool false, .bool false, .bool false, .bool false, .bool false, .bool false, .bool false, .bool false] 58)
                  clear hK K
                  try simp only [Act.put, List.setIfInBounds_toArray, List.set_cons_zero, List.set_cons_succ]
                  generalize hw47 : World.alloc w46 (.cells #[.bool false, .bool false, .bool false, .bool false, .bool false, .bool false, .bool false, .bool false, .bool false, .bool false, .bool false, .bool false, .bool false, .bool false, .bool false, .bool false, .bool false, .bool false, .bool false, .bool false, .bool false, .bool false, .bool false, .bool false] 58) = w47 at *
                  refine wpAnyH_ready (rs := [8]) (by kernel_rfl) (by simp) ?_
                  refine AllReadyH.cons (o := { dst := none, op := .store 58 (.tmp 11) (.tmp 36), type := 0, pos := "config.go:91", after := #[{ on := 6, ground := .data }, { on := 2, ground := .data }, { on := 5, ground := .chain }, { on := 0, ground := .phase }, { on := 1, ground := .phase }, { on := 2, ground := .phase }, { on := 3, ground := .textOnly .lateStores }, { on := 4, ground := .textOnly .lateStores }, { on := 5, ground := .textOnly .lateStoresUnsure }, { on := 6, ground := .phase }, { on := 7, ground := .phase }], guard := none }) rfl (fun K hK => ?_) ?_
                  · skip
                    rw [if_pos (by rfl)]
                    refine wp_store_blk 58 (.tmp 11) (.tmp 36) (by rfl) w46.heap.size 58 _ rB (by rfl) (by rfl) x471 HCR.out.2.2.1.1 HCR.out.2.2.1.2.1 HCR.out.2.2.1.2.2 ?_
                    intro w48 b48 z48 k48 q48
                    refine hK.out _ _ ⟨q48 _ _ _ (Nat.ne_of_lt lt47) hHeld.1, k48 _ _ (Nat.le_of_lt lt47) hHeld.2⟩ (fun hHeld => ?_)
                    have x482 := q48 _ _ _ n47 x472
                    clear hK K
                    try simp only [Act.put]
                    refine wpAnyH_ready (rs := [9]) (by kernel_rfl) (by simp) ?_
                    refine AllReadyH.cons (o := { dst := none, op := .store 58 (.tmp 12) (.tmp 39), type := 0, pos := "config.go:91", after := #[{ on := 7, ground := .data }, { on := 5, ground := .data }, { on := 8, ground := .chain }, { on := 0, ground := .phase }, { on := 1, ground := .phase }, { on := 2, ground := .phase }, { on := 3, ground := .phase }, { on := 4, ground := .phase }, { on := 5, ground := .phase }, { on := 6, ground := .phase }, { on := 7, ground := .phase }, { on := 8, ground := .phase }], guard := none }) rfl (fun K hK => ?_) ?_
                    · skip
                      rw [if_pos (by rfl)]
                      refine wp_store_blk 58 (.tmp 12) (.tmp 39) (by rfl) w0.heap.size 58 _ rC (by rfl) (by rfl) x482 HCR.out.2.2.2.1 HCR.out.2.2.2.2.1 HCR.out.2.2.2.2.2 ?_
                      intro w49 b49 z49 k49 q49
                      refine hK.out _ _ ⟨q49 _ _ _ (Nat.ne_of_lt lt44) hHeld.1, k49 _ _ (Nat.le_of_lt lt44) hHeld.2⟩ (fun hHeld => ?_)
                      have x491 := q49 _ _ _ (Ne.symm n47) b48
                      clear hK K
                      try simp only [Act.put]
                      refine wpAnyH_done (by kernel_rfl) ?_ _
                      go_wp2_with fail
                      go_meet
                      exact ⟨w46.heap.size, w0.heap.size, rfl, rfl, x491, b49, hHeld.1, hHeld.2⟩
                    exact AllReadyH.nil
                  exact AllReadyH.nil
                exact AllReadyH.nil
              refine AllReadyH.cons rfl (fun K hK => ?_) ?_
              · simp only [List.getElem_toArray, List.getElem_cons_succ, List.getElem_cons_zero]
                rw [if_pos (by rfl)]
                go_simp
                have lt50 := hHeld.1.lt
                refine hK.out _ _ ⟨hHeld.1.alloc _, hHeld.2.alloc hHeld.2.size _⟩ (fun hHeld => ?_)
                have x501 := Blk.new w45 58 #[.bool false, .bool false, .bool false, .bool false, .bool false, .bool false, .bool false, .bool false, .bool false, .bool false, .bool false, .bool false, .bool false, .bool false, .bool false, .bool false, .bool false, .bool false, .bool false, .bool false, .bool false, .bool false, .bool false, .bool false]
                have n50 := Nat.ne_of_lt x452.lt
                have x502 := x452.alloc (.cells #[.bool false, .bool false, .bool false, .bool false, .bool false, .bool false, .bool false, .bool false, .bool false, .bool false, .bool false, .bool false, .bool false, .bool false, .bool false, .bool false, .bool false, .bool false, .bool false, .bool false, .bool false, .bool false, .bool false, .bool false] 58)
                clear hK K
                try simp only [Act.put, List.setIfInBounds_toArray, List.set_cons_zero, List.set_cons_succ]
                generalize hw50 : World.alloc w45 (.cells #[.bool false, .bool false, .bool false, .bool false, .bool false, .bool false, .bool false, .bool false, .bool false, .bool false, .bool false, .bool false, .bool false, .bool false, .bool false, .bool false, .bool false, .bool false, .bool false, .bool false, .bool false, .bool false, .bool false, .bool false] 58) = w50 at *
                refine wpAnyH_ready (rs := [5]) (by kernel_rfl) (by simp) ?_
                refine AllReadyH.cons rfl (fun K hK => ?_) ?_
                · simp only [List.getElem_toArray, List.getElem_cons_succ, List.getElem_cons_zero]
                  rw [if_pos (by rfl)]
                  go_simp
                  refine (HCR.out.2.1 _ hHeld.2).mono ?_
                  rintro e w51 ⟨rfl, hb51⟩
                  go_simp
                  refine hK.out _ _ ⟨hHeld.1.on hb51, hHeld.2.trans (hb51.mono hHeld.2.size)⟩ (fun hHeld => ?_)
                  have x511 := x501.on hb51
                  have x512 := x502.on hb51
                  clear hK K
                  try simp only [Act.put, List.setIfInBounds_toArray, List.set_cons_zero, List.set_cons_succ]
                  refine wpAnyH_ready (rs := [8]) (by kernel_rfl) (by simp) ?_
                  refine AllReadyH.cons (o := { dst := none, op := .store 58 (.tmp 11) (.tmp 36), type := 0, pos := "config.go:91", after := #[{ on := 6, ground := .data }, { on := 2, ground := .data }, { on := 5, ground := .chain }, { on := 0, ground := .phase }, { on := 1, ground := .phase }, { on := 2, ground := .phase }, { on := 3, ground := .textOnly .lateStores }, { on := 4, ground := .textOnly .lateStores }, { on := 5, ground := .textOnly .lateStoresUnsure }, { on := 6, ground := .phase }, { on := 7, ground := .phase }], guard := none }) rfl (fun K hK => ?_) ?_
                  · skip
                    rw [if_pos (by rfl)]
                    refine wp_store_blk 58 (.tmp 11) (.tmp 36) (by rfl) w45.heap.size 58 _ rB (by rfl) (by rfl) x511 HCR.out.2.2.1.1 HCR.out.2.2.1.2.1 HCR.out.2.2.1.2.2 ?_
                    intro w52 b52 z52 k52 q52
                    refine hK.out _ _ ⟨q52 _ _ _ (Nat.ne_of_lt lt50) hHeld.1, k52 _ _ (Nat.le_of_lt lt50) hHeld.2⟩ (fun hHeld => ?_)
                    have x522 := q52 _ _ _ n50 x512
                    clear hK K
                    try simp only [Act.put]
                    refine wpAnyH_ready (rs := [9]) (by kernel_rfl) (by simp) ?_
                    refine AllReadyH.cons (o := { dst := none, op := .store 58 (.tmp 12) (.tmp 39), type := 0, pos := "config.go:91", after := #[{ on := 7, ground := .data }, { on := 5, ground := .data }, { on := 8, ground := .chain }, { on := 0, ground := .phase }, { on := 1, ground := .phase }, { on := 2, ground := .phase }, { on := 3, ground := .phase }, { on := 4, ground := .phase }, { on := 5, ground := .phase }, { on := 6, ground := .phase }, { on := 7, ground := .phase }, { on := 8, ground := .phase }], guard := none }) rfl (fun K hK => ?_) ?_
                    · skip
                      rw [if_pos (by rfl)]
                      refine wp_store_blk 58 (.tmp 12) (.tmp 39) (by rfl) w0.heap.size 58 _ rC (by rfl) (by rfl) x522 HCR.out.2.2.2.1 HCR.out.2.2.2.2.1 HCR.out.2.2.2.2.2 ?_
                      intro w53 b53 z53 k53 q53
                      refine hK.out _ _ ⟨q53 _ _ _ (Nat.ne_of_lt lt44) hHeld.1, k53 _ _ (Nat.le_of_lt lt44) hHeld.2⟩ (fun hHeld => ?_)
                      have x531 := q53 _ _ _ (Ne.symm n50) b52
                      clear hK K
                      try simp only [Act.put]
                      refine wpAnyH_done (by kernel_rfl) ?_ _
                      go_wp2_with fail
                      go_meet
                      exact ⟨w45.heap.size, w0.heap.size, rfl, rfl, x531, b53, hHeld.1, hHeld.2⟩
                    exact AllReadyH.nil
                  exact AllReadyH.nil
                exact AllReadyH.nil
              exact AllReadyH.nil
            refine AllReadyH.cons rfl (fun K hK => ?_) ?_
            · simp only [List.getElem_toArray, List.getElem_cons_succ, List.getElem_cons_zero]
              rw [if_pos (by rfl)]
              go_simp
              have lt54 := hHeld.1.lt
              refine hK.out _ _ ⟨hHeld.1.alloc _, hHeld.2.alloc hHeld.2.size _⟩ (fun hHeld => ?_)
              have x541 := Blk.new w44 58 #[.bool false, .bool false, .bool false, .bool false, .bool false, .bool false, .bool false, .bool false, .bool false, .bool false, .bool false, .bool false, .bool false, .bool false, .bool false, .bool false, .bool false, .bool false, .bool false, .bool false, .bool false, .bool false, .bool false, .bool false]
              have n54 := Nat.ne_of_lt x442.lt
              have x542 := x442.alloc (.cells #[.bool false, .bool false, .bool false, .bool false, .bool false, .bool false, .bool false, .bool false, .bool false, .bool false, .bool false, .bool false, .bool false, .bool false, .bool false, .bool false, .bool false, .bool false, .bool false, .bool false, .bool false, .bool false, .bool false, .bool false] 58)
              clear hK K
              try simp only [Act.put, List.setIfInBounds_toArray, List.set_cons_zero, List.set_cons_succ]
              generalize hw54 : World.alloc w44 (.cells #[.bool false, .bool false, .bool false, .bool false, .bool false, .bool false, .bool false, .bool false, .bool false, .bool false, .bool false, .bool false, .bool false, .bool false, .bool false, .bool false, .bool false, .bool false, .bool false, .bool false, .bool false, .bool false, .bool false, .bool false] 58) = w54 at *
              refine wpAnyH_ready (rs := [2]) (by kernel_rfl) (by simp) ?_
              refine AllReadyH.cons rfl (fun K hK => ?_) ?_
              · simp only [List.getElem_toArray, List.getElem_cons_succ, List.getElem_cons_zero]
                rw [if_pos (by rfl)]
                go_simp
                refine (HCR.out.1 _ hHeld.2).mono ?_
                rintro e w55 ⟨rfl, hb55⟩
                go_simp
                refine hK.out _ _ ⟨hHeld.1.on hb55, hHeld.2.trans (hb55.mono hHeld.2.size)⟩ (fun hHeld => ?_)
                have x551 := x541.on hb55
                have x552 := x542.on hb55
                clear hK K
                try simp only [Act.put, List.setIfInBounds_toArray, List.set_cons_zero, List.set_cons_succ]
                refine wpAnyH_ready (rs := [5]) (by kernel_rfl) (by simp) ?_
                refine AllReadyH.cons rfl (fun K hK => ?_) ?_
                · simp only [List.getElem_toArray, List.getElem_cons_succ, List.getElem_cons_zero]
                  rw [if_pos (by rfl)]
                  go_simp
                  refine (HCR.out.2.1 _ hHeld.2).mono ?_
                  rintro e w56 ⟨rfl, hb56⟩
                  go_simp
                  refine hK.out _ _ ⟨hHeld.1.on hb56, hHeld.2.trans (hb56.mono hHeld.2.size)⟩ (fun hHeld => ?_)
                  have x561 := x551.on hb56
                  have x562 := x552.on hb56
                  clear hK K
                  try simp only [Act.put, List.setIfInBounds_toArray, List.set_cons_zero, List.set_cons_succ]
                  refine wpAnyH_ready (rs := [8]) (by kernel_rfl) (by simp) ?_
                  refine AllReadyH.cons (o := { dst := none, op := .store 58 (.tmp 11) (.tmp 36), type := 0, pos := "config.go:91", after := #[{ on := 6, ground := .data }, { on := 2, ground := .data }, { on := 5, ground := .chain }, { on := 0, ground := .phase }, { on := 1, ground := .phase }, { on := 2, ground := .phase }, { on := 3, ground := .textOnly .lateStores }, { on := 4, ground := .textOnly .lateStores }, { on := 5, ground := .textOnly .lateStoresUnsure }, { on := 6, ground := .phase }, { on := 7, ground := .phase }], guard := none }) rfl (fun K hK => ?_) ?_
                  · skip
                    rw [if_pos (by rfl)]
                    refine wp_store_blk 58 (.tmp 11) (.tmp 36) (by rfl) w44.heap.size 58 _ rB (by rfl) (by rfl) x561 HCR.out.2.2.1.1 HCR.out.2.2.1.2.1 HCR.out.2.2.1.2.2 ?_
                    intro w57 b57 z57 k57 q57
                    refine hK.out _ _ ⟨q57 _ _ _ (Nat.ne_of_lt lt54) hHeld.1, k57 _ _ (Nat.le_of_lt lt54) hHeld.2⟩ (fun hHeld => ?_)
                    have x572 := q57 _ _ _ n54 x562
                    clear hK K
                    try simp only [Act.put]
                    refine wpAnyH_ready (rs := [9]) (by kernel_rfl) (by simp) ?_
                    refine AllReadyH.cons (o := { dst := none, op := .store 58 (.tmp 12) (.tmp 39), type := 0, pos := "config.go:91", after := #[{ on := 7, ground := .data }, { on := 5, ground := .data }, { on := 8, ground := .chain }, { on := 0, ground := .phase }, { on := 1, ground := .phase }, { on := 2, ground := .phase }, { on := 3, ground := .phase }, { on := 4, ground := .phase }, { on := 5, ground := .phase }, { on := 6, ground := .phase }, { on := 7, ground := .phase }, { on := 8, ground := .phase }], guard := none }) rfl (fun K hK => ?_) ?_
                    · skip
                      rw [if_pos (by rfl)]
                      refine wp_store_blk 58 (.tmp 12) (.tmp 39) (by rfl) w0.heap.size 58 _ rC (by rfl) (by rfl) x572 HCR.out.2.2.2.1 HCR.out.2.2.2.2.1 HCR.out.2.2.2.2.2 ?_
                      intro w58 b58 z58 k58 q58
                      refine hK.out _ _ ⟨q58 _ _ _ (Nat.ne_of_lt lt44) hHeld.1, k58 _ _ (Nat.le_of_lt lt44) hHeld.2⟩ (fun hHeld => ?_)
                      have x581 := q58 _ _ _ (Ne.symm n54) b57
                      clear hK K
                      try simp only [Act.put]
                      refine wpAnyH_done (by kernel_rfl) ?_ _
                      go_wp2_with fail
                      go_meet
                      exact ⟨w44.heap.size, w0.heap.size, rfl, rfl, x581, b58, hHeld.1, hHeld.2⟩
                    exact AllReadyH.nil
                  exact AllReadyH.nil
                exact AllReadyH.nil
              exact AllReadyH.nil
            exact AllReadyH.nil
          exact AllReadyH.nil
        case rest =>
          obtain ⟨g1, g2, rfl, rfl, hb1, hb2, hG, hbel⟩ := hcut
          have HL : Hid (mustL M R F B C = upTo (mustP F B C) R.toNat ∧ mayL M R F B C = upTo (mayP F B C) R.toNat) := Lib.hid ⟨by unfold mustL; rw [if_pos HOK.out]; rfl, by unfold mayL; rw [if_pos HOK.out]; rfl⟩
          have hrB := HRR.out.1
          have hrC := HRR.out.2
          obtain ⟨n, rfl⟩ : ∃ n : Nat, R = n := ⟨R.toNat, by omega⟩
          have hn12 : n ≤ 12 := by omega
          rw [Int.toNat_natCast] at HL
          have GC := Lib.hid (And.intro hb1 (And.intro hb2 (And.intro hG (And.intro hbel (And.intro hrB hrC)))))
          have hs3 : w.heap.size < wc.heap.size := hG.lt
          have hs4 : g1 < wc.heap.size := hb1.lt
          have hs5 : g2 < wc.heap.size := hb2.lt
          have c1 := hG.cell 1
          clear hb1 hb2 hG hbel hrB hrC HM
          go_wp2
          go_loopg [6, 7, 42] n (fun m o1 o2 i wr => ∃ k : Nat, m + k = n ∧ i = .int .i64 k ∧ Rows2 wc wr o1 o2 (upTo (mustP F B C) k) (upTo (mayP F B C) k))
          case atStart => exact ⟨0, by omega, rfl, by simp [upTo, World.ownsRow], by simp [upTo, World.ownsRow], by simp [Value.ownBlock], Below.refl _ _⟩
          case round =>
            obtain ⟨k, hmk, rfl, hrows⟩ := hrel
            have HM := Lib.hid hmk
            have hk : k ≤ n := by omega
            have hszr := hrows.2.2.2.size
            have hs6 : w.heap.size < wr.heap.size := by omega
            have hs7 : g1 < wr.heap.size := by omega
            have hs8 : g2 < wr.heap.size := by omega
            have GR := Lib.hid (And.intro (GC.out.1.on hrows.2.2.2) (And.intro (GC.out.2.1.on hrows.2.2.2) (And.intro (GC.out.2.2.1.on hrows.2.2.2) (GC.out.2.2.2.1.trans (hrows.2.2.2.mono GC.out.2.2.2.1.size)))))
            have HO := Lib.hid hrows
            have hol1 := upTo_len (mustP F B C) k
            have hol2 := upTo_len (mayP F B C) k
            clear hmk hrows c1
            by_cases hlt : k < n
            · have c2 := GR.out.2.2.1.cell 2
              have r1 : wr.cell? ⟨g1, k, none⟩ = some (.bool (addedB B k)) := by rw [GR.out.1.cell, ← GC.out.2.2.2.2.1, recA_added (by omega) (by omega)]
              have r2 : wr.cell? ⟨g2, 12 + k, none⟩ = some (.bool (removedB C k)) := by rw [GR.out.2.1.cell, ← GC.out.2.2.2.2.2, recA_removed (by omega) (by omega)]
              have r3 : wr.cell? ⟨g2, k, none⟩ = some (.bool (addedB C k)) := by rw [GR.out.2.1.cell, ← GC.out.2.2.2.2.2, recA_added (by omega) (by omega)]
              have r4 : wr.cell? ⟨g1, 12 + k, none⟩ = some (.bool (removedB B k)) := by rw [GR.out.1.cell, ← GC.out.2.2.2.2.1, recA_removed (by omega) (by omega)]
              have hco := contains_any _ F k wr (HF.out.keep GR.out.2.2.2)
              have hp : mustP F B C (k : Int) = ((decide ((k : Int) ∈ F) || addedB B k) && !removedB C k) := rfl
              have hq : mayP F B C (k : Int) = (!mustP F B C (k : Int) && ((decide ((k : Int) ∈ F) || addedB C k) && !removedB B k)) := rfl
              have y1 := @upTo_yes (mustP F B C) k
              have y2 := @upTo_yes (mayP F B C) k
              have z1 := @upTo_no (mustP F B C) k
              have z2 := @upTo_no (mayP F B C) k
              have hk12 : (k : Int) < 12 := by omega
              generalize removedB C k = x2 at *
              generalize removedB B k = x1 at *
              generalize addedB B k = d1 at *
              generalize addedB C k = d2 at *
              generalize decide ((k : Int) ∈ F) = f at *
              rw [hp] at hq y1 z1
              rw [hq] at y2 z2
              have HY := Lib.hid (And.intro y1 (And.intro z1 (And.intro y2 z2)))
              have HC := Lib.hid hco
              clear y1 z1 y2 z2 hco hp hq
              by_cases hx : ((f || d1) && !x2) = true
              · have HE := Lib.hid (And.intro (HY.out.1 hx) (HY.out.2.2.2 (by rw [hx]; rfl)))
                clear HY
                generalize upTo (mustP F B C) k = out1 at *
                generalize upTo (mayP F B C) k = out2 at *
                cases d1 <;> cases f <;> cases x2 <;> simp at hx
                all_goals
                  go_wp2_with (first | (refine HC.out.mono ?_; rintro e w4 ⟨rfl, rfl⟩) | (at_builtin; refine wpList_append_own_at _ rfl _ _ 22 rfl wc.heap.size 3 i0 (.int .i64 0) 1 8 Try.underlying22 HI.out.1 HI.out.2.1 HI.out.2.2.1 HI.out.2.2.2 rfl (by decide) _ _ _ rfl (by exact HO.out.1.alloc _) ⟨_, 0, none⟩ 1 1 [.int .i64 k] rfl rfl (cell_one_new _ _ _) (by intro u hu; simp at hu; subst hu; rfl) (by unfold maxLen; omega) (by omega) (by simp; omega) ?_; intro v5 w5 hown5 hgr5 _ hat5))
                  have H5 := Lib.hid (rows2_first (x := (k : Int)) HO.out (by exact hgr5) hown5 hat5)
                  clear hown5 hgr5 hat5
                  go_wp2
                  go_roundg (n - (k + 1))
                  case measure => have := HM.out; omega
                  case rel => exact ⟨k + 1, by omega, by go_num, by rw [HE.out.1, HE.out.2]; exact H5.out⟩
              · have hx := Bool.eq_false_iff.2 hx
                by_cases hy : ((f || d2) && !x1) = true
                · have HE := Lib.hid (And.intro (HY.out.2.1 hx) (HY.out.2.2.1 (by rw [hx, hy]; rfl)))
                  clear HY
                  generalize upTo (mustP F B C) k = out1 at *
                  generalize upTo (mayP F B C) k = out2 at *
                  cases d1 <;> cases f <;> cases x2 <;> simp at hx <;> cases d2 <;> cases x1 <;> simp at hy
                  all_goals
                    go_wp2_with (first | (refine HC.out.mono ?_; rintro e w4 ⟨rfl, rfl⟩) | (at_builtin; refine wpList_append_own_at _ rfl _ _ 22 rfl wc.heap.size 3 i0 (.int .i64 0) 1 8 Try.underlying22 HI.out.1 HI.out.2.1 HI.out.2.2.1 HI.out.2.2.2 rfl (by decide) _ _ _ rfl (by exact HO.out.2.1.alloc _) ⟨_, 0, none⟩ 1 1 [.int .i64 k] rfl rfl (cell_one_new _ _ _) (by intro u hu; simp at hu; subst hu; rfl) (by unfold maxLen; omega) (by omega) (by simp; omega) ?_; intro v5 w5 hown5 hgr5 _ hat5))
                    have H5 := Lib.hid (rows2_first (x := (k : Int)) HO.out.swap (by exact hgr5) hown5 hat5).swap
                    clear hown5 hgr5 hat5
                    go_wp2
                    go_roundg (n - (k + 1))
                    case measure => have := HM.out; omega
                    case rel => exact ⟨k + 1, by omega, by go_num, by rw [HE.out.1, HE.out.2]; exact H5.out⟩
                · have hy := Bool.eq_false_iff.2 hy
                  have HE := Lib.hid (And.intro (HY.out.2.1 hx) (HY.out.2.2.2 (by rw [hx, hy]; rfl)))
                  clear HY
                  cases d1 <;> cases f <;> cases x2 <;> simp at hx <;> cases d2 <;> cases x1 <;> simp at hy
                  all_goals
                    go_wp2_with (refine HC.out.mono ?_; rintro e w4 ⟨rfl, rfl⟩)
                    go_roundg (n - (k + 1))
                    case measure => have := HM.out; omega
                    case rel => exact ⟨k + 1, by omega, by go_num, by rw [HE.out.1, HE.out.2]; exact HO.out⟩
            · have hkn : k = n := by omega
              have HV := Lib.hid hkn
              clear hkn
              go_wp2
              go_ret3
              have hh := HO.out
              rw [HV.out, ← HL.out.1, ← HL.out.2] at hh
              exact ⟨u6, u7, by rw [HOK.out]; rfl, Reads.of_owns hh.1, Reads.of_owns hh.2.1, GR.out.2.2.2⟩
  · have hus := Bool.eq_false_iff.2 hus
    rw [hus] at hu
    have HU := Lib.hid hu
    have HE : Hid (okB M R F B C = false) := Lib.hid (by unfold okB; rw [hus, Bool.false_and])
    clear hu hus
    go_enter Try.func43, Try.ntmps43
    go_wp2_with fail
    refine HU.out.mono ?_
    rintro e w1 ⟨rfl, hb1⟩
    have H1 := Lib.hid (((Below.refl w.heap.size w).alloc (Nat.le_refl _) (.cells #[.int .i64 M, .int .i64 R, .slice a1 n1 k1, .int .i64 cl, .slice a2 n2 k2, .slice a3 n3 k3] 25)).trans (hb1.mono (by simp)))
    clear hb1
    go_wp2
    go_ret3
    exact none_made HE.out H1.out
end Go.Proofs.Ytahpecbcpgjinaa

