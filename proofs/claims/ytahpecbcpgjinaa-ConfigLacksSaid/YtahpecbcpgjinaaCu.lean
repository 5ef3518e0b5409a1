/-
  Chapter 39: awake.
-/
import Derived.Test.YtahpecbcpgjinaaCt
namespace Go.Proofs.Ytahpecbcpgjinaa
open Go.RowKit

theorem made_as {f a w} {L xs : List Int} (e : L = xs) (h : Calls Try.prog f a w (MadeI w L)) : Calls Try.prog f a w (MadeI w xs) := e ▸ h
theorem bool_as {f a w} {x y : Bool} (e : x = y) (h : Calls Try.prog f a w (BoolMade w x)) : Calls Try.prog f a w (BoolMade w y) := e ▸ h
theorem lack_as {f a w} {M R : Int} {F : List Int} {B C : List Cmd} {x L : List Int} {y : Bool} (e : lackL M R F B C x = L) (e2 : lackB M R F B C x = y) (h : Calls Try.prog f a w (LackMade w M R F B C x)) :
    Calls Try.prog f a w fun e w' => ∃ v, e = .returned (.tuple #[v, .bool y]) ∧ Reads vi w' v L ∧ Below w.heap.size w w' := by
  subst e e2; exact h
theorem same31_yes (v u : Value) (xs : List Int) (w : World) (hr : Reads vi w v xs) (hs : Reads vi w u xs) : Calls Try.prog 15 #[v, u] w (BoolMade w true) := by
  refine (same31_any v u xs xs w hr hs).mono ?_
  rintro e w' ⟨rfl, hd⟩
  exact ⟨by rw [decide_eq_true rfl], hd.below⟩
theorem put_comm {a : Act} {t u : Tmp} (h : t ≠ u) (x y : Value) : (a.put (some u) y).put (some t) x = (a.put (some t) x).put (some u) y := by
  unfold Act.put
  simp only
  rw [Array.setIfInBounds_comm _ _ (fun e => h e.symm)]

theorem ex_front1 : membersL 1 6 [0, 1, 2] (exC.take 1) = [0, 1, 2, 3] := by decide +kernel
theorem ex_back : membersL 1 6 [0, 1, 2] (exC.drop 1) = [0] := by decide +kernel
theorem ex_must : mustL 1 6 [0, 1, 2] [] (exC.take 2) = [1, 2] := by decide +kernel
theorem ex_may : mayL 1 6 [0, 1, 2] [] (exC.take 2) = [0, 3] := by decide +kernel
theorem ex_reach : reachL 1 6 [0, 1, 2] [] (exC.drop 1) = [0, 1, 2] := by decide +kernel
theorem ex_quorate : quorateB 1 6 [0, 1, 2] [] (exC.take 2) [1, 2, 3] = true := by decide +kernel
theorem ex_tolerates : quorateB 1 6 [0, 1, 2] [] (exC.take 2) (others 6 [0]) = true := by decide +kernel
theorem ex_lackL : lackL 1 6 [0, 1, 2] [] (exC.take 2) [0, 1, 3] = [1, 2] := by decide +kernel
theorem ex_lackB : lackB 1 6 [0, 1, 2] [] (exC.take 2) [0, 1, 3] = true := by decide +kernel

set_option maxRecDepth 100000 in
set_option maxHeartbeats 40000000 in
theorem awake_any (w : World) : Calls Try.prog 13 #[] w (BoolMade w true) := by
  go_enter Try.func13, Try.ntmps13
  go_wp2_with fail
  refine (example_any _).mono ?_
  rintro e w1 ⟨g, b, rfl, hg, hr, hb1⟩
  have HG := Lib.hid (And.intro hg (And.intro hr hb1))
  obtain ⟨vF, cl, vA, vO, rfl, hF, ⟨a2, n2, k2, rfl⟩, ⟨a3, n3, k3, rfl⟩⟩ := hg
  obtain ⟨a1, n1, k1, rfl⟩ := Slc.of_reads hF
  have HC : Hid (ReadsC w1 (.slice (some ⟨b, 0, none⟩) 1 4) (exC.take 1) ∧ ReadsC w1 (.slice (some ⟨b, 0, none⟩) 2 4) (exC.take 2) ∧ ReadsC w1 (.slice (some ⟨b, 6, none⟩) 3 3) (exC.drop 1)) := Lib.hid ⟨hr.front (by omega) (by omega), hr.front (by omega) (by omega), hr.back (k := 1) (by omega)⟩
  have HM := Lib.hid (And.intro ex_front1 (And.intro ex_back (And.intro ex_must (And.intro ex_may (And.intro ex_reach (And.intro ex_quorate ex_tolerates))))))
  have HL := Lib.hid (And.intro ex_lackL ex_lackB)
  have hB0 : Blk (w1.alloc (.cells #[.int .i64 1, .int .i64 6, .slice a1 n1 k1, .int .i64 cl, .slice a2 n2 k2, .slice a3 n3 k3] 25)) w1.heap.size 25 #[.int .i64 1, .int .i64 6, .slice a1 n1 k1, .int .i64 cl, .slice a2 n2 k2, .slice a3 n3 k3] ∧ Below w1.heap.size w1 (w1.alloc (.cells #[.int .i64 1, .int .i64 6, .slice a1 n1 k1, .int .i64 cl, .slice a2 n2 k2, .slice a3 n3 k3] 25)) := ⟨Blk.new _ _ _, (Below.refl _ _).alloc (Nat.le_refl _) _⟩
  clear hF hr hb1
  unfold gen at *
  go_upto_region 2 with fail
  go_cut [3, 4] (fun u t wx => Reads vi wx u [1, 2] ∧ t = .bool true ∧ Blk wx w1.heap.size 25 #[.int .i64 1, .int .i64 6, .slice a1 n1 k1, .int .i64 cl, .slice a2 n2 k2, .slice a3 n3 k3] ∧ Below w1.heap.size w1 wx)
  case first =>
    refine wp_region_held_drew (S := fun w' => Blk w' w1.heap.size 25 #[.int .i64 1, .int .i64 6, .slice a1 n1 k1, .int .i64 cl, .slice a2 n2 k2, .slice a3 n3 k3] ∧ Below w1.heap.size w1 w') (by kernel_rfl) ⟨hB0.1.drewN 1, hB0.2.trans (below_drewN 1)⟩ (fun hHeld => ?_)
    generalize hw0 : World.drew _ = w0 at hHeld ⊢
    clear hw0
    refine wpAnyH_take (i := 0) (v := (.agg #[.int .i64 1, .int .i64 6, .slice a1 n1 k1, .int .i64 cl, .slice a2 n2 k2, .slice a3 n3 k3])) rfl (by kernel_rfl) (by kernel_rfl) (by kernel_rfl) (fun _ _ _ h => h) (Or.inl ⟨by rfl, ?y0⟩) hHeld ?_
    case y0 =>
      intro wx hS
      have g0 := hS.1.cell 0
      have g1 := hS.1.cell 1
      have g2 := hS.1.cell 2
      have g3 := hS.1.cell 3
      have g4 := hS.1.cell 4
      have g5 := hS.1.cell 5
      go_simp
    simp only [List.getElem_toArray, List.getElem_cons_zero, Act.put, List.setIfInBounds_toArray, List.set_cons_zero, List.set_cons_succ]
    refine wpAnyH_take (i := 1) (v := (.slice (some ⟨b, 0, none⟩) 4 4)) rfl (by kernel_rfl) (by kernel_rfl) (by kernel_rfl) (fun _ _ _ h => h) (Or.inl ⟨by rfl, ?y1⟩) hHeld ?_
    case y1 =>
      intro wx hS
      go_simp
    simp only [List.getElem_toArray, List.getElem_cons_succ, List.getElem_cons_zero, Act.put, List.setIfInBounds_toArray, List.set_cons_zero, List.set_cons_succ]
    refine wpAnyH_take (i := 2) (v := (.slice (some ⟨b, 0, none⟩) 2 4)) rfl (by kernel_rfl) (by kernel_rfl) (by kernel_rfl) (fun _ _ _ h => h) (Or.inl ⟨by rfl, ?y2⟩) hHeld ?_
    case y2 =>
      intro wx hS
      go_simp
    simp only [List.getElem_toArray, List.getElem_cons_succ, List.getElem_cons_zero, Act.put, List.setIfInBounds_toArray, List.set_cons_zero, List.set_cons_succ]
    refine wpAnyH_ready (rs := [3]) (by kernel_rfl) (by simp) ?_
    refine AllReadyH.cons (o := { dst := some 13, op := Op.buildSlice 22 3 #[(0, Operand.const (Value.int IntKind.i64 0)), (1, Operand.const (Value.int IntKind.i64 1)), (2, Operand.const (Value.int IntKind.i64 3))], type := 22, pos := "law.go:21", after := #[], guard := none }) rfl (fun K hK => ?_) AllReadyH.nil
    rw [if_pos (by rfl)]
    go_simp
    refine hK.out _ _ ⟨hHeld.1.alloc _, hHeld.2.alloc hHeld.2.size _⟩ (fun hHeld => ?_)
    have hrza : Reads vi _ _ [0, 1, 3] := reads_litI (Blk.new w0 3 #[.int .i64 0, .int .i64 1, .int .i64 3]) rfl (by simp)
    clear hK K
    try simp only [List.getElem_toArray, List.getElem_cons_succ, List.getElem_cons_zero, Act.put, List.setIfInBounds_toArray, List.set_cons_zero, List.set_cons_succ]
    generalize hqza : World.alloc w0 (.cells #[.int .i64 0, .int .i64 1, .int .i64 3] 3) = wza at *
    refine wpAnyH_ready (rs := [4]) (by kernel_rfl) (by simp) ?_
    refine AllReadyH.cons (o := { dst := some 14, op := Op.call { callee := Callee.value (Operand.func 28), args := #[Operand.tmp 10, Operand.const (Value.slice none 0 0), Operand.tmp 12, Operand.tmp 13], argTypes := #[25, 26, 26, 22] }, type := 35, pos := "law.go:21", after := #[{ on := 0, ground := Ground.data }, { on := 2, ground := Ground.data }, { on := 3, ground := Ground.data }], guard := none }) rfl (fun K hK => ?_) AllReadyH.nil
    rw [if_pos (by rfl)]
    go_simp
    refine (lack_as HL.out.1 HL.out.2 (lacking_any _ (.slice none 0 0) _ _ 1 6 [0, 1, 2] [] (exC.take 2) [0, 1, 3] _ (HG.out.1.on hHeld.2) (ReadsK.nil _) (HC.out.2.1.on hHeld.2) hrza)).mono ?_
    rintro e w2 ⟨v2, rfl, hr2, hb2⟩
    go_simp
    refine hK.out _ _ ⟨hHeld.1.on hb2, hHeld.2.trans (hb2.mono hHeld.2.size)⟩ (fun hHeld => ?_)
    clear hK K
    try simp only [List.getElem_toArray, List.getElem_cons_succ, List.getElem_cons_zero, Act.put, List.setIfInBounds_toArray, List.set_cons_zero, List.set_cons_succ]
    refine wpAnyH_take (i := 5) (v := (.tuple #[v2, .bool true])) rfl (by kernel_rfl) (by kernel_rfl) (by kernel_rfl) (fun _ _ _ h => h) (Or.inl ⟨by rfl, ?y5⟩) hHeld ?_
    case y5 =>
      intro wx hS
      go_simp
    simp only [List.getElem_toArray, List.getElem_cons_succ, List.getElem_cons_zero, Act.put, List.setIfInBounds_toArray, List.set_cons_zero, List.set_cons_succ]
    refine wpAnyH_take (i := 6) (v := v2) rfl (by kernel_rfl) (by kernel_rfl) (by kernel_rfl) (fun _ _ _ h => h) (Or.inl ⟨by rfl, ?y6⟩) hHeld ?_
    case y6 =>
      intro wx hS
      go_simp
    simp only [List.getElem_toArray, List.getElem_cons_succ, List.getElem_cons_zero, Act.put, List.setIfInBounds_toArray, List.set_cons_zero, List.set_cons_succ]
    refine wpAnyH_take (i := 7) (v := (.bool true)) rfl (by kernel_rfl) (by kernel_rfl) (by kernel_rfl) (fun _ _ _ h => h) (Or.inl ⟨by rfl, ?y7⟩) hHeld ?_
    case y7 =>
      intro wx hS
      go_simp
    simp only [List.getElem_toArray, List.getElem_cons_succ, List.getElem_cons_zero, Act.put, List.setIfInBounds_toArray, List.set_cons_zero, List.set_cons_succ]
    refine wpAnyH_take (i := 8) (v := v2) rfl (by kernel_rfl) (by kernel_rfl) (by kernel_rfl) (fun _ _ _ h => h) (Or.inl ⟨by rfl, ?y8⟩) hHeld ?_
    case y8 =>
      intro wx hS
      go_simp
    simp only [List.getElem_toArray, List.getElem_cons_succ, List.getElem_cons_zero, Act.put, List.setIfInBounds_toArray, List.set_cons_zero, List.set_cons_succ]
    refine wpAnyH_take (i := 9) (v := (.bool true)) rfl (by kernel_rfl) (by kernel_rfl) (by kernel_rfl) (fun _ _ _ h => h) (Or.inl ⟨by rfl, ?y9⟩) hHeld ?_
    case y9 =>
      intro wx hS
      go_simp
    simp only [List.getElem_toArray, List.getElem_cons_succ, List.getElem_cons_zero, Act.put, List.setIfInBounds_toArray, List.set_cons_zero, List.set_cons_succ]
    refine wpAnyH_done (by kernel_rfl) ?_ _
    go_wp2_with fail
    go_meet
    exact ⟨hr2, rfl, hHeld.1, hHeld.2⟩
  case rest =>
    obtain ⟨hu, rfl, hB1⟩ := hcut
    have HG := Lib.hid (And.intro (HG.out.1.on hB1.2) (And.intro (HG.out.2.1.on hB1.2) (HG.out.2.2.trans (hB1.2.mono HG.out.2.2.size))))
    have HC := Lib.hid (And.intro (HC.out.1.on hB1.2) (And.intro (HC.out.2.1.on hB1.2) (HC.out.2.2.on hB1.2)))
    go_upto_region 3 with fail
    have hru := hu
    refine wp_region_held_drew (S := fun w' => Blk w' w1.heap.size 25 #[.int .i64 1, .int .i64 6, .slice a1 n1 k1, .int .i64 cl, .slice a2 n2 k2, .slice a3 n3 k3] ∧ Below wc.heap.size wc w') (by kernel_rfl) ⟨hB1.1.drewN 1, below_drewN 1⟩ (fun hHeld => ?_)
    generalize hw0 : World.drew _ = w0 at hHeld ⊢
    clear hw0
    refine wpAnyH_take (i := 0) (v := (.agg #[.int .i64 1, .int .i64 6, .slice a1 n1 k1, .int .i64 cl, .slice a2 n2 k2, .slice a3 n3 k3])) rfl (by kernel_rfl) (by kernel_rfl) (by kernel_rfl) (fun _ _ _ h => h) (Or.inl ⟨by rfl, ?y0⟩) hHeld ?_
    case y0 =>
      intro wx hS
      have g0 := hS.1.cell 0
      have g1 := hS.1.cell 1
      have g2 := hS.1.cell 2
      have g3 := hS.1.cell 3
      have g4 := hS.1.cell 4
      have g5 := hS.1.cell 5
      go_simp
    simp only [List.getElem_toArray, List.getElem_cons_zero, Act.put, List.setIfInBounds_toArray, List.set_cons_zero, List.set_cons_succ]
    refine wpAnyH_take (i := 1) (v := (.slice (some ⟨b, 0, none⟩) 4 4)) rfl (by kernel_rfl) (by kernel_rfl) (by kernel_rfl) (fun _ _ _ h => h) (Or.inl ⟨by rfl, ?y1⟩) hHeld ?_
    case y1 =>
      intro wx hS
      go_simp
    simp only [List.getElem_toArray, List.getElem_cons_succ, List.getElem_cons_zero, Act.put, List.setIfInBounds_toArray, List.set_cons_zero, List.set_cons_succ]
    refine wpAnyH_take (i := 2) (v := (.slice (some ⟨b, 0, none⟩) 1 4)) rfl (by kernel_rfl) (by kernel_rfl) (by kernel_rfl) (fun _ _ _ h => h) (Or.inl ⟨by rfl, ?y2⟩) hHeld ?_
    case y2 =>
      intro wx hS
      go_simp
    simp only [List.getElem_toArray, List.getElem_cons_succ, List.getElem_cons_zero, Act.put, List.setIfInBounds_toArray, List.set_cons_zero, List.set_cons_succ]
    refine wpAnyH_two (i := 3) (j := 4) (oi := { dst := some 20, op := Op.call { callee := Callee.value (Operand.func 16), args := #[Operand.tmp 17, Operand.tmp 19], argTypes := #[25, 26] }, type := 22, pos := "law.go:22", after := #[{ on := 0, ground := Ground.data }, { on := 2, ground := Ground.data }], guard := none }) (oj := { dst := some 21, op := Op.buildSlice 22 4 #[(0, Operand.const (Value.int IntKind.i64 0)), (1, Operand.const (Value.int IntKind.i64 1)), (2, Operand.const (Value.int IntKind.i64 2)), (3, Operand.const (Value.int IntKind.i64 3))], type := 22, pos := "law.go:22", after := #[], guard := none }) (fun x y w' => Reads vi w' x [0, 1, 2, 3] ∧ Reads vi w' y [0, 1, 2, 3]) rfl rfl (by decide) (by kernel_rfl) (by kernel_rfl) (by kernel_rfl) (put_comm (by decide)) ?q1a ?q1b ?q1c
    case q1a =>
      intro K hK
      unfold stepOf
      rw [if_pos (by rfl)]
      go_simp
      refine (made_as HM.out.1 (members_any _ _ 1 6 [0, 1, 2] (exC.take 1) _ (HG.out.1.on hHeld.2) (HC.out.1.on hHeld.2))).mono ?_
      rintro e w2 ⟨v2, rfl, hr2, hb2⟩
      go_simp
      refine hK.out _ _ ⟨hHeld.1.on hb2, hHeld.2.trans (hb2.mono hHeld.2.size)⟩ (fun K2 hK2 => ?_)
      have hHeld := And.intro (hHeld.1.on hb2) (hHeld.2.trans (hb2.mono hHeld.2.size))
      unfold stepOf
      rw [if_pos (by rfl)]
      go_simp
      refine hK2.out _ _ ⟨hHeld.1.alloc _, hHeld.2.alloc hHeld.2.size _⟩ ⟨hr2.keep ((Below.refl _ _).alloc (Nat.le_refl _) _), reads_litI (xs := [0, 1, 2, 3]) (Blk.new _ 3 #[.int .i64 0, .int .i64 1, .int .i64 2, .int .i64 3]) rfl (by simp)⟩
    case q1b =>
      intro K hK
      unfold stepOf
      rw [if_pos (by rfl)]
      go_simp
      refine hK.out _ _ ⟨hHeld.1.alloc _, hHeld.2.alloc hHeld.2.size _⟩ (fun K2 hK2 => ?_)
      have hrz : Reads vi _ _ [0, 1, 2, 3] := reads_litI (Blk.new w0 3 #[.int .i64 0, .int .i64 1, .int .i64 2, .int .i64 3]) rfl (by simp)
      have hHeld := And.intro (hHeld.1.alloc (.cells #[.int .i64 0, .int .i64 1, .int .i64 2, .int .i64 3] 3)) (hHeld.2.alloc hHeld.2.size (.cells #[.int .i64 0, .int .i64 1, .int .i64 2, .int .i64 3] 3))
      unfold stepOf
      rw [if_pos (by rfl)]
      go_simp
      refine (made_as HM.out.1 (members_any _ _ 1 6 [0, 1, 2] (exC.take 1) _ (HG.out.1.on hHeld.2) (HC.out.1.on hHeld.2))).mono ?_
      rintro e w2 ⟨v2, rfl, hr2, hb2⟩
      go_simp
      refine hK2.out _ _ ⟨hHeld.1.on hb2, hHeld.2.trans (hb2.mono hHeld.2.size)⟩ ⟨hr2, hrz.keep hb2⟩
    case q1c =>
      rintro v0 z0 wv0 hHeld ⟨hrv0, hrz0⟩
      try simp only [Act.put, List.setIfInBounds_toArray, List.set_cons_zero, List.set_cons_succ]
      refine wpAnyH_ready (rs := [5]) (by kernel_rfl) (by simp) ?_
      refine AllReadyH.cons (o := { dst := some 22, op := Op.call { callee := Callee.value (Operand.func 15), args := #[Operand.tmp 20, Operand.tmp 21], argTypes := #[22, 22] }, type := 4, pos := "law.go:22", after := #[{ on := 3, ground := Ground.data }, { on := 4, ground := Ground.data }, { on := 3, ground := Ground.chain }], guard := none }) rfl (fun K hK => ?_) AllReadyH.nil
      rw [if_pos (by rfl)]
      go_simp
      refine (same31_yes _ _ _ _ hrv0 hrz0).mono ?_
      rintro e w2 ⟨rfl, hb2⟩
      go_simp
      refine hK.out _ _ ⟨hHeld.1.on hb2, hHeld.2.trans (hb2.mono hHeld.2.size)⟩ (fun hHeld => ?_)
      clear hK K
      try simp only [List.getElem_toArray, List.getElem_cons_succ, List.getElem_cons_zero, Act.put, List.setIfInBounds_toArray, List.set_cons_zero, List.set_cons_succ]
      refine wpAnyH_take (i := 6) (v := (.bool true)) rfl (by kernel_rfl) (by kernel_rfl) (by kernel_rfl) (fun _ _ _ h => h) (Or.inl ⟨by rfl, ?y6⟩) hHeld ?_
      case y6 =>
        intro wx hS
        go_simp
      simp only [List.getElem_toArray, List.getElem_cons_succ, List.getElem_cons_zero, Act.put, List.setIfInBounds_toArray, List.set_cons_zero, List.set_cons_succ]
      refine wpAnyH_take (i := 7) (v := (.agg #[.int .i64 1, .int .i64 6, .slice a1 n1 k1, .int .i64 cl, .slice a2 n2 k2, .slice a3 n3 k3])) rfl (by kernel_rfl) (by kernel_rfl) (by kernel_rfl) (fun _ _ _ h => h) (Or.inl ⟨by rfl, ?y7⟩) hHeld ?_
      case y7 =>
        intro wx hS
        have g0 := hS.1.cell 0
        have g1 := hS.1.cell 1
        have g2 := hS.1.cell 2
        have g3 := hS.1.cell 3
        have g4 := hS.1.cell 4
        have g5 := hS.1.cell 5
        go_simp
      simp only [List.getElem_toArray, List.getElem_cons_succ, List.getElem_cons_zero, Act.put, List.setIfInBounds_toArray, List.set_cons_zero, List.set_cons_succ]
      refine wpAnyH_take (i := 8) (v := (.slice (some ⟨b, 0, none⟩) 4 4)) rfl (by kernel_rfl) (by kernel_rfl) (by kernel_rfl) (fun _ _ _ h => h) (Or.inl ⟨by rfl, ?y8⟩) hHeld ?_
      case y8 =>
        intro wx hS
        go_simp
      simp only [List.getElem_toArray, List.getElem_cons_succ, List.getElem_cons_zero, Act.put, List.setIfInBounds_toArray, List.set_cons_zero, List.set_cons_succ]
      refine wpAnyH_take (i := 9) (v := (.slice (some ⟨b, 6, none⟩) 3 3)) rfl (by kernel_rfl) (by kernel_rfl) (by kernel_rfl) (fun _ _ _ h => h) (Or.inl ⟨by rfl, ?y9⟩) hHeld ?_
      case y9 =>
        intro wx hS
        go_simp
      simp only [List.getElem_toArray, List.getElem_cons_succ, List.getElem_cons_zero, Act.put, List.setIfInBounds_toArray, List.set_cons_zero, List.set_cons_succ]
      refine wpAnyH_two (i := 10) (j := 11) (oi := { dst := some 27, op := Op.call { callee := Callee.value (Operand.func 16), args := #[Operand.tmp 24, Operand.tmp 26], argTypes := #[25, 26] }, type := 22, pos := "law.go:22", after := #[{ on := 7, ground := Ground.data }, { on := 9, ground := Ground.data }, { on := 6, ground := Ground.chain }, { on := 6, ground := Ground.guard }], guard := some (6, true) }) (oj := { dst := some 28, op := Op.buildSlice 22 1 #[(0, Operand.const (Value.int IntKind.i64 0))], type := 22, pos := "law.go:22", after := #[{ on := 6, ground := Ground.guard }], guard := some (6, true) }) (fun x y w' => Reads vi w' x [0] ∧ Reads vi w' y [0]) rfl rfl (by decide) (by kernel_rfl) (by kernel_rfl) (by kernel_rfl) (put_comm (by decide)) ?q2a ?q2b ?q2c
      case q2a =>
        intro K hK
        unfold stepOf
        rw [if_pos (by rfl)]
        go_simp
        refine (made_as HM.out.2.1 (members_any _ _ 1 6 [0, 1, 2] (exC.drop 1) _ (HG.out.1.on hHeld.2) (HC.out.2.2.on hHeld.2))).mono ?_
        rintro e w2 ⟨v2, rfl, hr2, hb2⟩
        go_simp
        refine hK.out _ _ ⟨hHeld.1.on hb2, hHeld.2.trans (hb2.mono hHeld.2.size)⟩ (fun K2 hK2 => ?_)
        have hHeld := And.intro (hHeld.1.on hb2) (hHeld.2.trans (hb2.mono hHeld.2.size))
        unfold stepOf
        rw [if_pos (by rfl)]
        go_simp
        refine hK2.out _ _ ⟨hHeld.1.alloc _, hHeld.2.alloc hHeld.2.size _⟩ ⟨hr2.keep ((Below.refl _ _).alloc (Nat.le_refl _) _), reads_litI (xs := [0]) (Blk.new _ 3 #[.int .i64 0]) rfl (by simp)⟩
      case q2b =>
        intro K hK
        unfold stepOf
        rw [if_pos (by rfl)]
        go_simp
        refine hK.out _ _ ⟨hHeld.1.alloc _, hHeld.2.alloc hHeld.2.size _⟩ (fun K2 hK2 => ?_)
        have hrz : Reads vi _ _ [0] := reads_litI (Blk.new w2 3 #[.int .i64 0]) rfl (by simp)
        have hHeld := And.intro (hHeld.1.alloc (.cells #[.int .i64 0] 3)) (hHeld.2.alloc hHeld.2.size (.cells #[.int .i64 0] 3))
        unfold stepOf
        rw [if_pos (by rfl)]
        go_simp
        refine (made_as HM.out.2.1 (members_any _ _ 1 6 [0, 1, 2] (exC.drop 1) _ (HG.out.1.on hHeld.2) (HC.out.2.2.on hHeld.2))).mono ?_
        rintro e w2 ⟨v2, rfl, hr2, hb2⟩
        go_simp
        refine hK2.out _ _ ⟨hHeld.1.on hb2, hHeld.2.trans (hb2.mono hHeld.2.size)⟩ ⟨hr2, hrz.keep hb2⟩
      case q2c =>
        rintro v1 z1 wv1 hHeld ⟨hrv1, hrz1⟩
        try simp only [Act.put, List.setIfInBounds_toArray, List.set_cons_zero, List.set_cons_succ]
        refine wpAnyH_ready (rs := [12]) (by kernel_rfl) (by simp) ?_
        refine AllReadyH.cons (o := { dst := some 29, op := Op.call { callee := Callee.value (Operand.func 15), args := #[Operand.tmp 27, Operand.tmp 28], argTypes := #[22, 22] }, type := 4, pos := "law.go:22", after := #[{ on := 10, ground := Ground.data }, { on := 11, ground := Ground.data }, { on := 10, ground := Ground.chain }, { on := 6, ground := Ground.guard }], guard := some (6, true) }) rfl (fun K hK => ?_) AllReadyH.nil
        rw [if_pos (by rfl)]
        go_simp
        refine (same31_yes _ _ _ _ hrv1 hrz1).mono ?_
        rintro e w2 ⟨rfl, hb2⟩
        go_simp
        refine hK.out _ _ ⟨hHeld.1.on hb2, hHeld.2.trans (hb2.mono hHeld.2.size)⟩ (fun hHeld => ?_)
        clear hK K
        try simp only [List.getElem_toArray, List.getElem_cons_succ, List.getElem_cons_zero, Act.put, List.setIfInBounds_toArray, List.set_cons_zero, List.set_cons_succ]
        refine wpAnyH_take (i := 13) (v := (.bool true)) rfl (by kernel_rfl) (by kernel_rfl) (by kernel_rfl) (fun _ _ _ h => h) (Or.inl ⟨by rfl, ?y13⟩) hHeld ?_
        case y13 =>
          intro wx hS
          go_simp
        simp only [List.getElem_toArray, List.getElem_cons_succ, List.getElem_cons_zero, Act.put, List.setIfInBounds_toArray, List.set_cons_zero, List.set_cons_succ]
        refine wpAnyH_take (i := 14) (v := (.bool true)) rfl (by kernel_rfl) (by kernel_rfl) (by kernel_rfl) (fun _ _ _ h => h) (Or.inl ⟨by rfl, ?y14⟩) hHeld ?_
        case y14 =>
          intro wx hS
          go_simp
        simp only [List.getElem_toArray, List.getElem_cons_succ, List.getElem_cons_zero, Act.put, List.setIfInBounds_toArray, List.set_cons_zero, List.set_cons_succ]
        refine wpAnyH_take (i := 15) (v := (.agg #[.int .i64 1, .int .i64 6, .slice a1 n1 k1, .int .i64 cl, .slice a2 n2 k2, .slice a3 n3 k3])) rfl (by kernel_rfl) (by kernel_rfl) (by kernel_rfl) (fun _ _ _ h => h) (Or.inl ⟨by rfl, ?y15⟩) hHeld ?_
        case y15 =>
          intro wx hS
          have g0 := hS.1.cell 0
          have g1 := hS.1.cell 1
          have g2 := hS.1.cell 2
          have g3 := hS.1.cell 3
          have g4 := hS.1.cell 4
          have g5 := hS.1.cell 5
          go_simp
        simp only [List.getElem_toArray, List.getElem_cons_succ, List.getElem_cons_zero, Act.put, List.setIfInBounds_toArray, List.set_cons_zero, List.set_cons_succ]
        refine wpAnyH_take (i := 16) (v := (.slice (some ⟨b, 0, none⟩) 4 4)) rfl (by kernel_rfl) (by kernel_rfl) (by kernel_rfl) (fun _ _ _ h => h) (Or.inl ⟨by rfl, ?y16⟩) hHeld ?_
        case y16 =>
          intro wx hS
          go_simp
        simp only [List.getElem_toArray, List.getElem_cons_succ, List.getElem_cons_zero, Act.put, List.setIfInBounds_toArray, List.set_cons_zero, List.set_cons_succ]
        refine wpAnyH_take (i := 17) (v := (.slice (some ⟨b, 0, none⟩) 2 4)) rfl (by kernel_rfl) (by kernel_rfl) (by kernel_rfl) (fun _ _ _ h => h) (Or.inl ⟨by rfl, ?y17⟩) hHeld ?_
        case y17 =>
          intro wx hS
          go_simp
        simp only [List.getElem_toArray, List.getElem_cons_succ, List.getElem_cons_zero, Act.put, List.setIfInBounds_toArray, List.set_cons_zero, List.set_cons_succ]
        refine wpAnyH_two (i := 18) (j := 19) (oi := { dst := some 35, op := Op.call { callee := Callee.value (Operand.func 19), args := #[Operand.tmp 32, Operand.const (Value.slice none 0 0), Operand.tmp 34], argTypes := #[25, 26, 26] }, type := 22, pos := "law.go:22", after := #[{ on := 15, ground := Ground.data }, { on := 17, ground := Ground.data }, { on := 14, ground := Ground.chain }, { on := 14, ground := Ground.guard }], guard := some (14, true) }) (oj := { dst := some 36, op := Op.buildSlice 22 2 #[(0, Operand.const (Value.int IntKind.i64 1)), (1, Operand.const (Value.int IntKind.i64 2))], type := 22, pos := "law.go:22", after := #[{ on := 14, ground := Ground.guard }], guard := some (14, true) }) (fun x y w' => Reads vi w' x [1, 2] ∧ Reads vi w' y [1, 2]) rfl rfl (by decide) (by kernel_rfl) (by kernel_rfl) (by kernel_rfl) (put_comm (by decide)) ?q3a ?q3b ?q3c
        case q3a =>
          intro K hK
          unfold stepOf
          rw [if_pos (by rfl)]
          go_simp
          refine (made_as HM.out.2.2.1 (must_any _ (.slice none 0 0) _ 1 6 [0, 1, 2] [] (exC.take 2) _ (HG.out.1.on hHeld.2) (ReadsK.nil _) (HC.out.2.1.on hHeld.2))).mono ?_
          rintro e w2 ⟨v2, rfl, hr2, hb2⟩
          go_simp
          refine hK.out _ _ ⟨hHeld.1.on hb2, hHeld.2.trans (hb2.mono hHeld.2.size)⟩ (fun K2 hK2 => ?_)
          have hHeld := And.intro (hHeld.1.on hb2) (hHeld.2.trans (hb2.mono hHeld.2.size))
          unfold stepOf
          rw [if_pos (by rfl)]
          go_simp
          refine hK2.out _ _ ⟨hHeld.1.alloc _, hHeld.2.alloc hHeld.2.size _⟩ ⟨hr2.keep ((Below.refl _ _).alloc (Nat.le_refl _) _), reads_litI (xs := [1, 2]) (Blk.new _ 3 #[.int .i64 1, .int .i64 2]) rfl (by simp)⟩
        case q3b =>
          intro K hK
          unfold stepOf
          rw [if_pos (by rfl)]
          go_simp
          refine hK.out _ _ ⟨hHeld.1.alloc _, hHeld.2.alloc hHeld.2.size _⟩ (fun K2 hK2 => ?_)
          have hrz : Reads vi _ _ [1, 2] := reads_litI (Blk.new w2 3 #[.int .i64 1, .int .i64 2]) rfl (by simp)
          have hHeld := And.intro (hHeld.1.alloc (.cells #[.int .i64 1, .int .i64 2] 3)) (hHeld.2.alloc hHeld.2.size (.cells #[.int .i64 1, .int .i64 2] 3))
          unfold stepOf
          rw [if_pos (by rfl)]
          go_simp
          refine (made_as HM.out.2.2.1 (must_any _ (.slice none 0 0) _ 1 6 [0, 1, 2] [] (exC.take 2) _ (HG.out.1.on hHeld.2) (ReadsK.nil _) (HC.out.2.1.on hHeld.2))).mono ?_
          rintro e w2 ⟨v2, rfl, hr2, hb2⟩
          go_simp
          refine hK2.out _ _ ⟨hHeld.1.on hb2, hHeld.2.trans (hb2.mono hHeld.2.size)⟩ ⟨hr2, hrz.keep hb2⟩
        case q3c =>
          rintro v2 z2 wv2 hHeld ⟨hrv2, hrz2⟩
          try simp only [Act.put, List.setIfInBounds_toArray, List.set_cons_zero, List.set_cons_succ]
          refine wpAnyH_ready (rs := [20]) (by kernel_rfl) (by simp) ?_
          refine AllReadyH.cons (o := { dst := some 37, op := Op.call { callee := Callee.value (Operand.func 15), args := #[Operand.tmp 35, Operand.tmp 36], argTypes := #[22, 22] }, type := 4, pos := "law.go:22", after := #[{ on := 18, ground := Ground.data }, { on := 19, ground := Ground.data }, { on := 18, ground := Ground.chain }, { on := 14, ground := Ground.guard }], guard := some (14, true) }) rfl (fun K hK => ?_) AllReadyH.nil
          rw [if_pos (by rfl)]
          go_simp
          refine (same31_yes _ _ _ _ hrv2 hrz2).mono ?_
          rintro e w2 ⟨rfl, hb2⟩
          go_simp
          refine hK.out _ _ ⟨hHeld.1.on hb2, hHeld.2.trans (hb2.mono hHeld.2.size)⟩ (fun hHeld => ?_)
          clear hK K
          try simp only [List.getElem_toArray, List.getElem_cons_succ, List.getElem_cons_zero, Act.put, List.setIfInBounds_toArray, List.set_cons_zero, List.set_cons_succ]
          refine wpAnyH_take (i := 21) (v := (.bool true)) rfl (by kernel_rfl) (by kernel_rfl) (by kernel_rfl) (fun _ _ _ h => h) (Or.inl ⟨by rfl, ?y21⟩) hHeld ?_
          case y21 =>
            intro wx hS
            go_simp
          simp only [List.getElem_toArray, List.getElem_cons_succ, List.getElem_cons_zero, Act.put, List.setIfInBounds_toArray, List.set_cons_zero, List.set_cons_succ]
          refine wpAnyH_take (i := 22) (v := (.bool true)) rfl (by kernel_rfl) (by kernel_rfl) (by kernel_rfl) (fun _ _ _ h => h) (Or.inl ⟨by rfl, ?y22⟩) hHeld ?_
          case y22 =>
            intro wx hS
            go_simp
          simp only [List.getElem_toArray, List.getElem_cons_succ, List.getElem_cons_zero, Act.put, List.setIfInBounds_toArray, List.set_cons_zero, List.set_cons_succ]
          refine wpAnyH_take (i := 23) (v := (.agg #[.int .i64 1, .int .i64 6, .slice a1 n1 k1, .int .i64 cl, .slice a2 n2 k2, .slice a3 n3 k3])) rfl (by kernel_rfl) (by kernel_rfl) (by kernel_rfl) (fun _ _ _ h => h) (Or.inl ⟨by rfl, ?y23⟩) hHeld ?_
          case y23 =>
            intro wx hS
            have g0 := hS.1.cell 0
            have g1 := hS.1.cell 1
            have g2 := hS.1.cell 2
            have g3 := hS.1.cell 3
            have g4 := hS.1.cell 4
            have g5 := hS.1.cell 5
            go_simp
          simp only [List.getElem_toArray, List.getElem_cons_succ, List.getElem_cons_zero, Act.put, List.setIfInBounds_toArray, List.set_cons_zero, List.set_cons_succ]
          refine wpAnyH_take (i := 24) (v := (.slice (some ⟨b, 0, none⟩) 4 4)) rfl (by kernel_rfl) (by kernel_rfl) (by kernel_rfl) (fun _ _ _ h => h) (Or.inl ⟨by rfl, ?y24⟩) hHeld ?_
          case y24 =>
            intro wx hS
            go_simp
          simp only [List.getElem_toArray, List.getElem_cons_succ, List.getElem_cons_zero, Act.put, List.setIfInBounds_toArray, List.set_cons_zero, List.set_cons_succ]
          refine wpAnyH_take (i := 25) (v := (.slice (some ⟨b, 0, none⟩) 2 4)) rfl (by kernel_rfl) (by kernel_rfl) (by kernel_rfl) (fun _ _ _ h => h) (Or.inl ⟨by rfl, ?y25⟩) hHeld ?_
          case y25 =>
            intro wx hS
            go_simp
          simp only [List.getElem_toArray, List.getElem_cons_succ, List.getElem_cons_zero, Act.put, List.setIfInBounds_toArray, List.set_cons_zero, List.set_cons_succ]
          refine wpAnyH_two (i := 26) (j := 27) (oi := { dst := some 43, op := Op.call { callee := Callee.value (Operand.func 21), args := #[Operand.tmp 40, Operand.const (Value.slice none 0 0), Operand.tmp 42], argTypes := #[25, 26, 26] }, type := 22, pos := "law.go:22", after := #[{ on := 23, ground := Ground.data }, { on := 25, ground := Ground.data }, { on := 22, ground := Ground.chain }, { on := 22, ground := Ground.guard }], guard := some (22, true) }) (oj := { dst := some 44, op := Op.buildSlice 22 2 #[(0, Operand.const (Value.int IntKind.i64 0)), (1, Operand.const (Value.int IntKind.i64 3))], type := 22, pos := "law.go:22", after := #[{ on := 22, ground := Ground.guard }], guard := some (22, true) }) (fun x y w' => Reads vi w' x [0, 3] ∧ Reads vi w' y [0, 3]) rfl rfl (by decide) (by kernel_rfl) (by kernel_rfl) (by kernel_rfl) (put_comm (by decide)) ?q4a ?q4b ?q4c
          case q4a =>
            intro K hK
            unfold stepOf
            rw [if_pos (by rfl)]
            go_simp
            refine (made_as HM.out.2.2.2.1 (may_any _ (.slice none 0 0) _ 1 6 [0, 1, 2] [] (exC.take 2) _ (HG.out.1.on hHeld.2) (ReadsK.nil _) (HC.out.2.1.on hHeld.2))).mono ?_
            rintro e w2 ⟨v2, rfl, hr2, hb2⟩
            go_simp
            refine hK.out _ _ ⟨hHeld.1.on hb2, hHeld.2.trans (hb2.mono hHeld.2.size)⟩ (fun K2 hK2 => ?_)
            have hHeld := And.intro (hHeld.1.on hb2) (hHeld.2.trans (hb2.mono hHeld.2.size))
            unfold stepOf
            rw [if_pos (by rfl)]
            go_simp
            refine hK2.out _ _ ⟨hHeld.1.alloc _, hHeld.2.alloc hHeld.2.size _⟩ ⟨hr2.keep ((Below.refl _ _).alloc (Nat.le_refl _) _), reads_litI (xs := [0, 3]) (Blk.new _ 3 #[.int .i64 0, .int .i64 3]) rfl (by simp)⟩
          case q4b =>
            intro K hK
            unfold stepOf
            rw [if_pos (by rfl)]
            go_simp
            refine hK.out _ _ ⟨hHeld.1.alloc _, hHeld.2.alloc hHeld.2.size _⟩ (fun K2 hK2 => ?_)
            have hrz : Reads vi _ _ [0, 3] := reads_litI (Blk.new w2 3 #[.int .i64 0, .int .i64 3]) rfl (by simp)
            have hHeld := And.intro (hHeld.1.alloc (.cells #[.int .i64 0, .int .i64 3] 3)) (hHeld.2.alloc hHeld.2.size (.cells #[.int .i64 0, .int .i64 3] 3))
            unfold stepOf
            rw [if_pos (by rfl)]
            go_simp
            refine (made_as HM.out.2.2.2.1 (may_any _ (.slice none 0 0) _ 1 6 [0, 1, 2] [] (exC.take 2) _ (HG.out.1.on hHeld.2) (ReadsK.nil _) (HC.out.2.1.on hHeld.2))).mono ?_
            rintro e w2 ⟨v2, rfl, hr2, hb2⟩
            go_simp
            refine hK2.out _ _ ⟨hHeld.1.on hb2, hHeld.2.trans (hb2.mono hHeld.2.size)⟩ ⟨hr2, hrz.keep hb2⟩
          case q4c =>
            rintro v3 z3 wv3 hHeld ⟨hrv3, hrz3⟩
            try simp only [Act.put, List.setIfInBounds_toArray, List.set_cons_zero, List.set_cons_succ]
            refine wpAnyH_ready (rs := [28]) (by kernel_rfl) (by simp) ?_
            refine AllReadyH.cons (o := { dst := some 45, op := Op.call { callee := Callee.value (Operand.func 15), args := #[Operand.tmp 43, Operand.tmp 44], argTypes := #[22, 22] }, type := 4, pos := "law.go:22", after := #[{ on := 26, ground := Ground.data }, { on := 27, ground := Ground.data }, { on := 26, ground := Ground.chain }, { on := 22, ground := Ground.guard }], guard := some (22, true) }) rfl (fun K hK => ?_) AllReadyH.nil
            rw [if_pos (by rfl)]
            go_simp
            refine (same31_yes _ _ _ _ hrv3 hrz3).mono ?_
            rintro e w2 ⟨rfl, hb2⟩
            go_simp
            refine hK.out _ _ ⟨hHeld.1.on hb2, hHeld.2.trans (hb2.mono hHeld.2.size)⟩ (fun hHeld => ?_)
            clear hK K
            try simp only [List.getElem_toArray, List.getElem_cons_succ, List.getElem_cons_zero, Act.put, List.setIfInBounds_toArray, List.set_cons_zero, List.set_cons_succ]
            refine wpAnyH_take (i := 29) (v := (.bool true)) rfl (by kernel_rfl) (by kernel_rfl) (by kernel_rfl) (fun _ _ _ h => h) (Or.inl ⟨by rfl, ?y29⟩) hHeld ?_
            case y29 =>
              intro wx hS
              go_simp
            simp only [List.getElem_toArray, List.getElem_cons_succ, List.getElem_cons_zero, Act.put, List.setIfInBounds_toArray, List.set_cons_zero, List.set_cons_succ]
            refine wpAnyH_take (i := 30) (v := (.bool true)) rfl (by kernel_rfl) (by kernel_rfl) (by kernel_rfl) (fun _ _ _ h => h) (Or.inl ⟨by rfl, ?y30⟩) hHeld ?_
            case y30 =>
              intro wx hS
              go_simp
            simp only [List.getElem_toArray, List.getElem_cons_succ, List.getElem_cons_zero, Act.put, List.setIfInBounds_toArray, List.set_cons_zero, List.set_cons_succ]
            refine wpAnyH_take (i := 31) (v := (.agg #[.int .i64 1, .int .i64 6, .slice a1 n1 k1, .int .i64 cl, .slice a2 n2 k2, .slice a3 n3 k3])) rfl (by kernel_rfl) (by kernel_rfl) (by kernel_rfl) (fun _ _ _ h => h) (Or.inl ⟨by rfl, ?y31⟩) hHeld ?_
            case y31 =>
              intro wx hS
              have g0 := hS.1.cell 0
              have g1 := hS.1.cell 1
              have g2 := hS.1.cell 2
              have g3 := hS.1.cell 3
              have g4 := hS.1.cell 4
              have g5 := hS.1.cell 5
              go_simp
            simp only [List.getElem_toArray, List.getElem_cons_succ, List.getElem_cons_zero, Act.put, List.setIfInBounds_toArray, List.set_cons_zero, List.set_cons_succ]
            refine wpAnyH_take (i := 32) (v := (.slice (some ⟨b, 0, none⟩) 4 4)) rfl (by kernel_rfl) (by kernel_rfl) (by kernel_rfl) (fun _ _ _ h => h) (Or.inl ⟨by rfl, ?y32⟩) hHeld ?_
            case y32 =>
              intro wx hS
              go_simp
            simp only [List.getElem_toArray, List.getElem_cons_succ, List.getElem_cons_zero, Act.put, List.setIfInBounds_toArray, List.set_cons_zero, List.set_cons_succ]
            refine wpAnyH_take (i := 33) (v := (.slice (some ⟨b, 6, none⟩) 3 3)) rfl (by kernel_rfl) (by kernel_rfl) (by kernel_rfl) (fun _ _ _ h => h) (Or.inl ⟨by rfl, ?y33⟩) hHeld ?_
            case y33 =>
              intro wx hS
              go_simp
            simp only [List.getElem_toArray, List.getElem_cons_succ, List.getElem_cons_zero, Act.put, List.setIfInBounds_toArray, List.set_cons_zero, List.set_cons_succ]
            refine wpAnyH_two (i := 34) (j := 35) (oi := { dst := some 51, op := Op.call { callee := Callee.value (Operand.func 22), args := #[Operand.tmp 48, Operand.const (Value.slice none 0 0), Operand.tmp 50], argTypes := #[25, 26, 26] }, type := 22, pos := "law.go:22", after := #[{ on := 31, ground := Ground.data }, { on := 33, ground := Ground.data }, { on := 30, ground := Ground.chain }, { on := 30, ground := Ground.guard }], guard := some (30, true) }) (oj := { dst := some 52, op := Op.buildSlice 22 3 #[(0, Operand.const (Value.int IntKind.i64 0)), (1, Operand.const (Value.int IntKind.i64 1)), (2, Operand.const (Value.int IntKind.i64 2))], type := 22, pos := "law.go:22", after := #[{ on := 30, ground := Ground.guard }], guard := some (30, true) }) (fun x y w' => Reads vi w' x [0, 1, 2] ∧ Reads vi w' y [0, 1, 2]) rfl rfl (by decide) (by kernel_rfl) (by kernel_rfl) (by kernel_rfl) (put_comm (by decide)) ?q5a ?q5b ?q5c
            case q5a =>
              intro K hK
              unfold stepOf
              rw [if_pos (by rfl)]
              go_simp
              refine (made_as HM.out.2.2.2.2.1 (reach_any _ (.slice none 0 0) _ 1 6 [0, 1, 2] [] (exC.drop 1) _ (HG.out.1.on hHeld.2) (ReadsK.nil _) (HC.out.2.2.on hHeld.2))).mono ?_
              rintro e w2 ⟨v2, rfl, hr2, hb2⟩
              go_simp
              refine hK.out _ _ ⟨hHeld.1.on hb2, hHeld.2.trans (hb2.mono hHeld.2.size)⟩ (fun K2 hK2 => ?_)
              have hHeld := And.intro (hHeld.1.on hb2) (hHeld.2.trans (hb2.mono hHeld.2.size))
              unfold stepOf
              rw [if_pos (by rfl)]
              go_simp
              refine hK2.out _ _ ⟨hHeld.1.alloc _, hHeld.2.alloc hHeld.2.size _⟩ ⟨hr2.keep ((Below.refl _ _).alloc (Nat.le_refl _) _), reads_litI (xs := [0, 1, 2]) (Blk.new _ 3 #[.int .i64 0, .int .i64 1, .int .i64 2]) rfl (by simp)⟩
            case q5b =>
              intro K hK
              unfold stepOf
              rw [if_pos (by rfl)]
              go_simp
              refine hK.out _ _ ⟨hHeld.1.alloc _, hHeld.2.alloc hHeld.2.size _⟩ (fun K2 hK2 => ?_)
              have hrz : Reads vi _ _ [0, 1, 2] := reads_litI (Blk.new w2 3 #[.int .i64 0, .int .i64 1, .int .i64 2]) rfl (by simp)
              have hHeld := And.intro (hHeld.1.alloc (.cells #[.int .i64 0, .int .i64 1, .int .i64 2] 3)) (hHeld.2.alloc hHeld.2.size (.cells #[.int .i64 0, .int .i64 1, .int .i64 2] 3))
              unfold stepOf
              rw [if_pos (by rfl)]
              go_simp
              refine (made_as HM.out.2.2.2.2.1 (reach_any _ (.slice none 0 0) _ 1 6 [0, 1, 2] [] (exC.drop 1) _ (HG.out.1.on hHeld.2) (ReadsK.nil _) (HC.out.2.2.on hHeld.2))).mono ?_
              rintro e w2 ⟨v2, rfl, hr2, hb2⟩
              go_simp
              refine hK2.out _ _ ⟨hHeld.1.on hb2, hHeld.2.trans (hb2.mono hHeld.2.size)⟩ ⟨hr2, hrz.keep hb2⟩
            case q5c =>
              rintro v4 z4 wv4 hHeld ⟨hrv4, hrz4⟩
              try simp only [Act.put, List.setIfInBounds_toArray, List.set_cons_zero, List.set_cons_succ]
              refine wpAnyH_ready (rs := [36]) (by kernel_rfl) (by simp) ?_
              refine AllReadyH.cons (o := { dst := some 53, op := Op.call { callee := Callee.value (Operand.func 15), args := #[Operand.tmp 51, Operand.tmp 52], argTypes := #[22, 22] }, type := 4, pos := "law.go:22", after := #[{ on := 34, ground := Ground.data }, { on := 35, ground := Ground.data }, { on := 34, ground := Ground.chain }, { on := 30, ground := Ground.guard }], guard := some (30, true) }) rfl (fun K hK => ?_) AllReadyH.nil
              rw [if_pos (by rfl)]
              go_simp
              refine (same31_yes _ _ _ _ hrv4 hrz4).mono ?_
              rintro e w2 ⟨rfl, hb2⟩
              go_simp
              refine hK.out _ _ ⟨hHeld.1.on hb2, hHeld.2.trans (hb2.mono hHeld.2.size)⟩ (fun hHeld => ?_)
              clear hK K
              try simp only [List.getElem_toArray, List.getElem_cons_succ, List.getElem_cons_zero, Act.put, List.setIfInBounds_toArray, List.set_cons_zero, List.set_cons_succ]
              refine wpAnyH_take (i := 37) (v := (.bool true)) rfl (by kernel_rfl) (by kernel_rfl) (by kernel_rfl) (fun _ _ _ h => h) (Or.inl ⟨by rfl, ?y37⟩) hHeld ?_
              case y37 =>
                intro wx hS
                go_simp
              simp only [List.getElem_toArray, List.getElem_cons_succ, List.getElem_cons_zero, Act.put, List.setIfInBounds_toArray, List.set_cons_zero, List.set_cons_succ]
              refine wpAnyH_take (i := 38) (v := (.bool true)) rfl (by kernel_rfl) (by kernel_rfl) (by kernel_rfl) (fun _ _ _ h => h) (Or.inl ⟨by rfl, ?y38⟩) hHeld ?_
              case y38 =>
                intro wx hS
                go_simp
              simp only [List.getElem_toArray, List.getElem_cons_succ, List.getElem_cons_zero, Act.put, List.setIfInBounds_toArray, List.set_cons_zero, List.set_cons_succ]
              refine wpAnyH_take (i := 39) (v := (.agg #[.int .i64 1, .int .i64 6, .slice a1 n1 k1, .int .i64 cl, .slice a2 n2 k2, .slice a3 n3 k3])) rfl (by kernel_rfl) (by kernel_rfl) (by kernel_rfl) (fun _ _ _ h => h) (Or.inl ⟨by rfl, ?y39⟩) hHeld ?_
              case y39 =>
                intro wx hS
                have g0 := hS.1.cell 0
                have g1 := hS.1.cell 1
                have g2 := hS.1.cell 2
                have g3 := hS.1.cell 3
                have g4 := hS.1.cell 4
                have g5 := hS.1.cell 5
                go_simp
              simp only [List.getElem_toArray, List.getElem_cons_succ, List.getElem_cons_zero, Act.put, List.setIfInBounds_toArray, List.set_cons_zero, List.set_cons_succ]
              refine wpAnyH_take (i := 40) (v := (.slice (some ⟨b, 0, none⟩) 4 4)) rfl (by kernel_rfl) (by kernel_rfl) (by kernel_rfl) (fun _ _ _ h => h) (Or.inl ⟨by rfl, ?y40⟩) hHeld ?_
              case y40 =>
                intro wx hS
                go_simp
              simp only [List.getElem_toArray, List.getElem_cons_succ, List.getElem_cons_zero, Act.put, List.setIfInBounds_toArray, List.set_cons_zero, List.set_cons_succ]
              refine wpAnyH_take (i := 41) (v := (.slice (some ⟨b, 0, none⟩) 2 4)) rfl (by kernel_rfl) (by kernel_rfl) (by kernel_rfl) (fun _ _ _ h => h) (Or.inl ⟨by rfl, ?y41⟩) hHeld ?_
              case y41 =>
                intro wx hS
                go_simp
              simp only [List.getElem_toArray, List.getElem_cons_succ, List.getElem_cons_zero, Act.put, List.setIfInBounds_toArray, List.set_cons_zero, List.set_cons_succ]
              refine wpAnyH_ready (rs := [42]) (by kernel_rfl) (by simp) ?_
              refine AllReadyH.cons (o := { dst := some 59, op := Op.buildSlice 22 3 #[(0, Operand.const (Value.int IntKind.i64 1)), (1, Operand.const (Value.int IntKind.i64 2)), (2, Operand.const (Value.int IntKind.i64 3))], type := 22, pos := "law.go:22", after := #[{ on := 38, ground := Ground.guard }], guard := some (38, true) }) rfl (fun K hK => ?_) AllReadyH.nil
              rw [if_pos (by rfl)]
              go_simp
              refine hK.out _ _ ⟨hHeld.1.alloc _, hHeld.2.alloc hHeld.2.size _⟩ (fun hHeld => ?_)
              have hrzq : Reads vi _ _ [1, 2, 3] := reads_litI (Blk.new w2 3 #[.int .i64 1, .int .i64 2, .int .i64 3]) rfl (by simp)
              clear hK K
              try simp only [List.getElem_toArray, List.getElem_cons_succ, List.getElem_cons_zero, Act.put, List.setIfInBounds_toArray, List.set_cons_zero, List.set_cons_succ]
              generalize hqzq : World.alloc w2 (.cells #[.int .i64 1, .int .i64 2, .int .i64 3] 3) = wzq at *
              refine wpAnyH_ready (rs := [43]) (by kernel_rfl) (by simp) ?_
              refine AllReadyH.cons (o := { dst := some 60, op := Op.call { callee := Callee.value (Operand.func 24), args := #[Operand.tmp 56, Operand.const (Value.slice none 0 0), Operand.tmp 58, Operand.tmp 59], argTypes := #[25, 26, 26, 22] }, type := 4, pos := "law.go:22", after := #[{ on := 39, ground := Ground.data }, { on := 41, ground := Ground.data }, { on := 42, ground := Ground.data }, { on := 38, ground := Ground.chain }, { on := 38, ground := Ground.guard }], guard := some (38, true) }) rfl (fun K hK => ?_) AllReadyH.nil
              rw [if_pos (by rfl)]
              go_simp
              refine (bool_as HM.out.2.2.2.2.2.1 (quorate_any _ (.slice none 0 0) _ _ 1 6 [0, 1, 2] [] (exC.take 2) [1, 2, 3] _ (HG.out.1.on hHeld.2) (ReadsK.nil _) (HC.out.2.1.on hHeld.2) hrzq)).mono ?_
              rintro e w2 ⟨rfl, hb2⟩
              go_simp
              refine hK.out _ _ ⟨hHeld.1.on hb2, hHeld.2.trans (hb2.mono hHeld.2.size)⟩ (fun hHeld => ?_)
              clear hK K
              try simp only [List.getElem_toArray, List.getElem_cons_succ, List.getElem_cons_zero, Act.put, List.setIfInBounds_toArray, List.set_cons_zero, List.set_cons_succ]
              refine wpAnyH_take (i := 44) (v := (.bool true)) rfl (by kernel_rfl) (by kernel_rfl) (by kernel_rfl) (fun _ _ _ h => h) (Or.inl ⟨by rfl, ?y44⟩) hHeld ?_
              case y44 =>
                intro wx hS
                go_simp
              simp only [List.getElem_toArray, List.getElem_cons_succ, List.getElem_cons_zero, Act.put, List.setIfInBounds_toArray, List.set_cons_zero, List.set_cons_succ]
              refine wpAnyH_take (i := 45) (v := (.bool true)) rfl (by kernel_rfl) (by kernel_rfl) (by kernel_rfl) (fun _ _ _ h => h) (Or.inl ⟨by rfl, ?y45⟩) hHeld ?_
              case y45 =>
                intro wx hS
                go_simp
              simp only [List.getElem_toArray, List.getElem_cons_succ, List.getElem_cons_zero, Act.put, List.setIfInBounds_toArray, List.set_cons_zero, List.set_cons_succ]
              refine wpAnyH_take (i := 46) (v := (.bool true)) rfl (by kernel_rfl) (by kernel_rfl) (by kernel_rfl) (fun _ _ _ h => h) (Or.inl ⟨by rfl, ?y46⟩) hHeld ?_
              case y46 =>
                intro wx hS
                go_simp
              simp only [List.getElem_toArray, List.getElem_cons_succ, List.getElem_cons_zero, Act.put, List.setIfInBounds_toArray, List.set_cons_zero, List.set_cons_succ]
              refine wpAnyH_take (i := 47) (v := (.bool true)) rfl (by kernel_rfl) (by kernel_rfl) (by kernel_rfl) (fun _ _ _ h => h) (Or.inl ⟨by rfl, ?y47⟩) hHeld ?_
              case y47 =>
                intro wx hS
                go_simp
              simp only [List.getElem_toArray, List.getElem_cons_succ, List.getElem_cons_zero, Act.put, List.setIfInBounds_toArray, List.set_cons_zero, List.set_cons_succ]
              refine wpAnyH_take (i := 48) (v := (.bool true)) rfl (by kernel_rfl) (by kernel_rfl) (by kernel_rfl) (fun _ _ _ h => h) (Or.inl ⟨by rfl, ?y48⟩) hHeld ?_
              case y48 =>
                intro wx hS
                go_simp
              simp only [List.getElem_toArray, List.getElem_cons_succ, List.getElem_cons_zero, Act.put, List.setIfInBounds_toArray, List.set_cons_zero, List.set_cons_succ]
              refine wpAnyH_take (i := 49) (v := u3) rfl (by kernel_rfl) (by kernel_rfl) (by kernel_rfl) (fun _ _ _ h => h) (Or.inl ⟨by rfl, ?y49⟩) hHeld ?_
              case y49 =>
                intro wx hS
                go_simp
              simp only [List.getElem_toArray, List.getElem_cons_succ, List.getElem_cons_zero, Act.put, List.setIfInBounds_toArray, List.set_cons_zero, List.set_cons_succ]
              refine wpAnyH_ready (rs := [50]) (by kernel_rfl) (by simp) ?_
              refine AllReadyH.cons (o := { dst := some 67, op := Op.buildSlice 22 2 #[(0, Operand.const (Value.int IntKind.i64 1)), (1, Operand.const (Value.int IntKind.i64 2))], type := 22, pos := "law.go:22", after := #[{ on := 48, ground := Ground.guard }], guard := some (48, true) }) rfl (fun K hK => ?_) AllReadyH.nil
              rw [if_pos (by rfl)]
              go_simp
              refine hK.out _ _ ⟨hHeld.1.alloc _, hHeld.2.alloc hHeld.2.size _⟩ (fun hHeld => ?_)
              have hrzl : Reads vi _ _ [1, 2] := reads_litI (Blk.new w2 3 #[.int .i64 1, .int .i64 2]) rfl (by simp)
              clear hK K
              try simp only [List.getElem_toArray, List.getElem_cons_succ, List.getElem_cons_zero, Act.put, List.setIfInBounds_toArray, List.set_cons_zero, List.set_cons_succ]
              generalize hqzl : World.alloc w2 (.cells #[.int .i64 1, .int .i64 2] 3) = wzl at *
              refine wpAnyH_ready (rs := [51]) (by kernel_rfl) (by simp) ?_
              refine AllReadyH.cons (o := { dst := some 68, op := Op.call { callee := Callee.value (Operand.func 15), args := #[Operand.tmp 66, Operand.tmp 67], argTypes := #[22, 22] }, type := 4, pos := "law.go:22", after := #[{ on := 49, ground := Ground.data }, { on := 50, ground := Ground.data }, { on := 48, ground := Ground.chain }, { on := 48, ground := Ground.guard }], guard := some (48, true) }) rfl (fun K hK => ?_) AllReadyH.nil
              rw [if_pos (by rfl)]
              go_simp
              refine (same31_yes _ _ _ _ (hru.keep hHeld.2) hrzl).mono ?_
              rintro e w2 ⟨rfl, hb2⟩
              go_simp
              refine hK.out _ _ ⟨hHeld.1.on hb2, hHeld.2.trans (hb2.mono hHeld.2.size)⟩ (fun hHeld => ?_)
              clear hK K
              try simp only [List.getElem_toArray, List.getElem_cons_succ, List.getElem_cons_zero, Act.put, List.setIfInBounds_toArray, List.set_cons_zero, List.set_cons_succ]
              refine wpAnyH_take (i := 52) (v := (.bool true)) rfl (by kernel_rfl) (by kernel_rfl) (by kernel_rfl) (fun _ _ _ h => h) (Or.inl ⟨by rfl, ?y52⟩) hHeld ?_
              case y52 =>
                intro wx hS
                go_simp
              simp only [List.getElem_toArray, List.getElem_cons_succ, List.getElem_cons_zero, Act.put, List.setIfInBounds_toArray, List.set_cons_zero, List.set_cons_succ]
              refine wpAnyH_take (i := 53) (v := (.bool true)) rfl (by kernel_rfl) (by kernel_rfl) (by kernel_rfl) (fun _ _ _ h => h) (Or.inl ⟨by rfl, ?y53⟩) hHeld ?_
              case y53 =>
                intro wx hS
                go_simp
              simp only [List.getElem_toArray, List.getElem_cons_succ, List.getElem_cons_zero, Act.put, List.setIfInBounds_toArray, List.set_cons_zero, List.set_cons_succ]
              refine wpAnyH_take (i := 54) (v := (.agg #[.int .i64 1, .int .i64 6, .slice a1 n1 k1, .int .i64 cl, .slice a2 n2 k2, .slice a3 n3 k3])) rfl (by kernel_rfl) (by kernel_rfl) (by kernel_rfl) (fun _ _ _ h => h) (Or.inl ⟨by rfl, ?y54⟩) hHeld ?_
              case y54 =>
                intro wx hS
                have g0 := hS.1.cell 0
                have g1 := hS.1.cell 1
                have g2 := hS.1.cell 2
                have g3 := hS.1.cell 3
                have g4 := hS.1.cell 4
                have g5 := hS.1.cell 5
                go_simp
              simp only [List.getElem_toArray, List.getElem_cons_succ, List.getElem_cons_zero, Act.put, List.setIfInBounds_toArray, List.set_cons_zero, List.set_cons_succ]
              refine wpAnyH_take (i := 55) (v := (.slice (some ⟨b, 0, none⟩) 4 4)) rfl (by kernel_rfl) (by kernel_rfl) (by kernel_rfl) (fun _ _ _ h => h) (Or.inl ⟨by rfl, ?y55⟩) hHeld ?_
              case y55 =>
                intro wx hS
                go_simp
              simp only [List.getElem_toArray, List.getElem_cons_succ, List.getElem_cons_zero, Act.put, List.setIfInBounds_toArray, List.set_cons_zero, List.set_cons_succ]
              refine wpAnyH_take (i := 56) (v := (.slice (some ⟨b, 0, none⟩) 2 4)) rfl (by kernel_rfl) (by kernel_rfl) (by kernel_rfl) (fun _ _ _ h => h) (Or.inl ⟨by rfl, ?y56⟩) hHeld ?_
              case y56 =>
                intro wx hS
                go_simp
              simp only [List.getElem_toArray, List.getElem_cons_succ, List.getElem_cons_zero, Act.put, List.setIfInBounds_toArray, List.set_cons_zero, List.set_cons_succ]
              refine wpAnyH_ready (rs := [57]) (by kernel_rfl) (by simp) ?_
              refine AllReadyH.cons (o := { dst := some 74, op := Op.buildSlice 22 1 #[(0, Operand.const (Value.int IntKind.i64 0))], type := 22, pos := "law.go:22", after := #[{ on := 53, ground := Ground.guard }], guard := some (53, true) }) rfl (fun K hK => ?_) AllReadyH.nil
              rw [if_pos (by rfl)]
              go_simp
              refine hK.out _ _ ⟨hHeld.1.alloc _, hHeld.2.alloc hHeld.2.size _⟩ (fun hHeld => ?_)
              have hrzt : Reads vi _ _ [0] := reads_litI (Blk.new w2 3 #[.int .i64 0]) rfl (by simp)
              clear hK K
              try simp only [List.getElem_toArray, List.getElem_cons_succ, List.getElem_cons_zero, Act.put, List.setIfInBounds_toArray, List.set_cons_zero, List.set_cons_succ]
              generalize hqzt : World.alloc w2 (.cells #[.int .i64 0] 3) = wzt at *
              refine wpAnyH_ready (rs := [58]) (by kernel_rfl) (by simp) ?_
              refine AllReadyH.cons (o := { dst := some 75, op := Op.call { callee := Callee.value (Operand.func 26), args := #[Operand.tmp 71, Operand.const (Value.slice none 0 0), Operand.tmp 73, Operand.tmp 74], argTypes := #[25, 26, 26, 22] }, type := 4, pos := "law.go:22", after := #[{ on := 54, ground := Ground.data }, { on := 56, ground := Ground.data }, { on := 57, ground := Ground.data }, { on := 53, ground := Ground.chain }, { on := 53, ground := Ground.guard }], guard := some (53, true) }) rfl (fun K hK => ?_) AllReadyH.nil
              rw [if_pos (by rfl)]
              go_simp
              refine (bool_as HM.out.2.2.2.2.2.2 (tolerates_any _ (.slice none 0 0) _ _ 1 6 [0, 1, 2] [] (exC.take 2) [0] _ (HG.out.1.on hHeld.2) (ReadsK.nil _) (HC.out.2.1.on hHeld.2) hrzt)).mono ?_
              rintro e w2 ⟨rfl, hb2⟩
              go_simp
              refine hK.out _ _ ⟨hHeld.1.on hb2, hHeld.2.trans (hb2.mono hHeld.2.size)⟩ (fun hHeld => ?_)
              clear hK K
              try simp only [List.getElem_toArray, List.getElem_cons_succ, List.getElem_cons_zero, Act.put, List.setIfInBounds_toArray, List.set_cons_zero, List.set_cons_succ]
              refine wpAnyH_take (i := 59) (v := (.bool true)) rfl (by kernel_rfl) (by kernel_rfl) (by kernel_rfl) (fun _ _ _ h => h) (Or.inl ⟨by rfl, ?y59⟩) hHeld ?_
              case y59 =>
                intro wx hS
                go_simp
              simp only [List.getElem_toArray, List.getElem_cons_succ, List.getElem_cons_zero, Act.put, List.setIfInBounds_toArray, List.set_cons_zero, List.set_cons_succ]
              refine wpAnyH_take (i := 60) (v := (.bool true)) rfl (by kernel_rfl) (by kernel_rfl) (by kernel_rfl) (fun _ _ _ h => h) (Or.inl ⟨by rfl, ?y60⟩) hHeld ?_
              case y60 =>
                intro wx hS
                go_simp
              simp only [List.getElem_toArray, List.getElem_cons_succ, List.getElem_cons_zero, Act.put, List.setIfInBounds_toArray, List.set_cons_zero]
              refine wpAnyH_done (by kernel_rfl) ?_ _
              go_wp2
              go_ret
              exact ⟨rfl, HG.out.2.2.trans (Below.mono hHeld.2 HG.out.2.2.size)⟩
end Go.Proofs.Ytahpecbcpgjinaa

