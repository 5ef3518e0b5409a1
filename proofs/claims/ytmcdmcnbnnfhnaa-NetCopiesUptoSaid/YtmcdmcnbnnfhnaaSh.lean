/-
  Chapter 28: equal bases, proofs and items are told equal (the reference).
-/
import Derived.Test.YtmcdmcnbnnfhnaaSg
namespace Go.Proofs.Ytmcdmcnbnnfhnaa
open Go.RowKit

/-- A list of one element, just built. -/
theorem built_one {P : Nat → Prop} {T : TypeId} {K : Nat} {w : World} {ds : List DV} {cs : List Value} (h : CellsD P w cs ds) (hK : ds.length = K) :
    ReadsD (fun b => P b ∨ b = w.heap.size) (w.alloc (.cells cs.toArray T)) (.slice (some ⟨w.heap.size, 0, none⟩) 1 1) (.ls K [ds]) := by
  have hB : Blk (w.alloc (.cells cs.toArray T)) w.heap.size T cs.toArray := Blk.new w T _
  have hb : Below w.heap.size w (w.alloc (.cells cs.toArray T)) := (Below.refl _ _).alloc (Nat.le_refl _) _
  refine .ls (xs := [ds]) (b := w.heap.size) (off := 0) (fun _ i => (cs[i]?).getD undef) (by simp) (by simp) (by simp) (by simp [maxLen]) (.inr rfl) hB.lt (fun q _ => hB.frozen _) (fun j hj => ?_) (fun j hj i hi => ?_) (fun j hj i hi => ?_)
  all_goals
    have hj0 : j = 0 := by simpa using hj
    subst hj0
  · exact hK
  · simp only [Nat.zero_mul, Nat.zero_add]
    rw [hB.cell, List.getElem?_toArray, List.getElem?_eq_getElem (by rw [h.1, hK]; exact hi)]
    rfl
  · simp only [List.getElem_cons_zero] at hi ⊢
    have hl : i < cs.length := by rw [h.1]; exact hi
    rw [List.getElem?_eq_getElem hl]
    exact ((h.2 i _ _ (List.getElem?_eq_getElem hl) (List.getElem?_eq_getElem hi)).on hb).mono fun b p _ => .inl p
theorem built_at {P : Nat → Prop} {T : TypeId} {K g : Nat} {w : World} {ds : List DV} {cs : List Value} (h : CellsD P w cs ds) (hK : ds.length = K) (hg : w.heap.size = g) :
    ReadsD (fun b => P b ∨ b = g) (w.alloc (.cells cs.toArray T)) (.slice (some ⟨g, 0, none⟩) 1 1) (.ls K [ds]) := by subst hg; exact built_one h hK
set_option maxRecDepth 100000 in
set_option maxHeartbeats 4000000 in
theorem same_base {P P' : Nat → Prop} (cs us : List Value) (a : BaseM) (w : World) (hv : CellsD P w cs (baseD a)) (hu : CellsD P' w us (baseD a)) : Calls Try.prog 38 #[.agg cs.toArray, .agg us.toArray] w (BoolMade w true) := by
  obtain ⟨v30, cs3, rfl, r30, qq30⟩ := CellsD.cons hv
  clear hv
  obtain ⟨s30, t30, rfl, -, -, -, hL30⟩ := ReadsD.slcM (f := certD) r30
  obtain ⟨v31, cs3, rfl, r31, qq31⟩ := CellsD.cons qq30
  clear qq30
  obtain ⟨s31, t31, rfl, -, -, -, hL31⟩ := ReadsD.slcM (f := cmdD) r31
  have en3 := CellsD.nil qq31
  subst en3
  clear qq31
  obtain ⟨v40, cs4, rfl, r40, qq40⟩ := CellsD.cons hu
  clear hu
  obtain ⟨s40, t40, rfl, -, -, -, hL40⟩ := ReadsD.slcM (f := certD) r40
  obtain ⟨v41, cs4, rfl, r41, qq41⟩ := CellsD.cons qq40
  clear qq40
  obtain ⟨s41, t41, rfl, -, -, -, hL41⟩ := ReadsD.slcM (f := cmdD) r41
  have en4 := CellsD.nil qq41
  subst en4
  clear qq41
  have HE0 := Lib.hid (And.intro r30 r40)
  clear r30 r40
  have HE1 := Lib.hid (And.intro r31 r41)
  clear r31 r41
  go_enter Try.func38, Try.ntmps38
  go_upto_region 1 with fail
  have HB := Lib.hid (two_boxes w 106 #[.slice s30 a.steps.length t30, .slice s31 a.taken.length t31] #[.slice s40 a.steps.length t40, .slice s41 a.taken.length t41])
  generalize hw0 : World.alloc (World.alloc w _) _ = w0 at HB ⊢
  clear hw0
  have d10 : w0.cell? ⟨w.heap.size, 0, none⟩ = some (.slice s30 a.steps.length t30) := HB.out.1.cell 0
  have d20 : w0.cell? ⟨w.heap.size + 1, 0, none⟩ = some (.slice s40 a.steps.length t40) := HB.out.2.1.cell 0
  have HCL := Lib.hid (same_certificates _ _ a.steps w0 (HE0.out.1.on HB.out.2.2) (HE0.out.2.on HB.out.2.2))
  go_wp2_with fail
  refine HCL.out.mono ?_
  rintro e w1 ⟨rfl, hb1⟩
  have HBw1 := Lib.hid (⟨HB.out.1.on hb1, HB.out.2.1.on hb1, HB.out.2.2.trans (hb1.mono HB.out.2.2.size)⟩ : Blk w1 w.heap.size 106 #[.slice s30 a.steps.length t30, .slice s31 a.taken.length t31] ∧ Blk w1 (w.heap.size + 1) 106 #[.slice s40 a.steps.length t40, .slice s41 a.taken.length t41] ∧ Below w.heap.size w w1)
  clear HCL HB hb1
  clear d10 d20
  have d11 : w1.cell? ⟨w.heap.size, 1, none⟩ = some (.slice s31 a.taken.length t31) := HBw1.out.1.cell 1
  have d21 : w1.cell? ⟨w.heap.size + 1, 1, none⟩ = some (.slice s41 a.taken.length t41) := HBw1.out.2.1.cell 1
  have HCL := Lib.hid (same_commands _ _ a.taken a.taken w1 (HE1.out.1.on HBw1.out.2.2) (HE1.out.2.on HBw1.out.2.2))
  rw [eqb_same] at HCL
  go_wp2_with fail
  refine HCL.out.mono ?_
  rintro e w2 ⟨rfl, hb1⟩
  have HBw2 := Lib.hid (⟨HBw1.out.1.on hb1, HBw1.out.2.1.on hb1, HBw1.out.2.2.trans (hb1.mono HBw1.out.2.2.size)⟩ : Blk w2 w.heap.size 106 #[.slice s30 a.steps.length t30, .slice s31 a.taken.length t31] ∧ Blk w2 (w.heap.size + 1) 106 #[.slice s40 a.steps.length t40, .slice s41 a.taken.length t41] ∧ Below w.heap.size w w2)
  clear HCL HBw1 hb1
  go_wp2_with fail
  go_ret
  exact ⟨rfl, HBw2.out.2.2⟩
set_option maxRecDepth 100000 in
set_option maxHeartbeats 4000000 in
theorem same_item {P P' : Nat → Prop} (cs us : List Value) (a : ItemM) (w : World) (hv : CellsD P w cs (itemD a)) (hu : CellsD P' w us (itemD a)) : Calls Try.prog 41 #[.agg cs.toArray, .agg us.toArray] w (BoolMade w true) := by
  obtain ⟨v30, cs3, rfl, r30, qq30⟩ := CellsD.cons hv
  clear hv
  have e30 : v30 = .string (toB a.key) := r30.s
  subst e30
  clear r30
  obtain ⟨v31, cs3, rfl, r31, qq31⟩ := CellsD.cons qq30
  clear qq30
  have e31 := r31.atv
  subst e31
  clear r31
  obtain ⟨v32, cs3, rfl, r32, qq32⟩ := CellsD.cons qq31
  clear qq31
  obtain ⟨s32, t32, rfl, -⟩ := r32.bslc
  obtain ⟨v33, cs3, rfl, r33, qq33⟩ := CellsD.cons qq32
  clear qq32
  obtain ⟨s33, t33, rfl, -, -, -, hL33⟩ := ReadsD.slcM (f := fun s => [bytesD s]) r33
  have en3 := CellsD.nil qq33
  subst en3
  clear qq33
  obtain ⟨v40, cs4, rfl, r40, qq40⟩ := CellsD.cons hu
  clear hu
  have e40 : v40 = .string (toB a.key) := r40.s
  subst e40
  clear r40
  obtain ⟨v41, cs4, rfl, r41, qq41⟩ := CellsD.cons qq40
  clear qq40
  have e41 := r41.atv
  subst e41
  clear r41
  obtain ⟨v42, cs4, rfl, r42, qq42⟩ := CellsD.cons qq41
  clear qq41
  obtain ⟨s42, t42, rfl, -⟩ := r42.bslc
  obtain ⟨v43, cs4, rfl, r43, qq43⟩ := CellsD.cons qq42
  clear qq42
  obtain ⟨s43, t43, rfl, -, -, -, hL43⟩ := ReadsD.slcM (f := fun s => [bytesD s]) r43
  have en4 := CellsD.nil qq43
  subst en4
  clear qq43
  have HE2 := Lib.hid (And.intro r32 r42)
  clear r32 r42
  have HE3 := Lib.hid (And.intro r33 r43)
  clear r33 r43
  go_enter Try.func41, Try.ntmps41
  go_upto_region 1 with fail
  have HB := Lib.hid (two_boxes w 95 #[.string (toB a.key), .bool a.present, .slice s32 a.content.length t32, .slice s33 a.path.length t33] #[.string (toB a.key), .bool a.present, .slice s42 a.content.length t42, .slice s43 a.path.length t43])
  generalize hw0 : World.alloc (World.alloc w _) _ = w0 at HB ⊢
  clear hw0
  have d10 : w0.cell? ⟨w.heap.size, 0, none⟩ = some (.string (toB a.key)) := HB.out.1.cell 0
  have d20 : w0.cell? ⟨w.heap.size + 1, 0, none⟩ = some (.string (toB a.key)) := HB.out.2.1.cell 0
  have d11 : w0.cell? ⟨w.heap.size, 1, none⟩ = some (.bool a.present) := HB.out.1.cell 1
  have d21 : w0.cell? ⟨w.heap.size + 1, 1, none⟩ = some (.bool a.present) := HB.out.2.1.cell 1
  have d12 : w0.cell? ⟨w.heap.size, 2, none⟩ = some (.slice s32 a.content.length t32) := HB.out.1.cell 2
  have d22 : w0.cell? ⟨w.heap.size + 1, 2, none⟩ = some (.slice s42 a.content.length t42) := HB.out.2.1.cell 2
  have nn0 : ((toB a.key).toList == (toB a.key).toList) = true := by simp
  have nn1 : (a.present != a.present) = false := by simp
  have HCL := Lib.hid (same_bytes _ _ a.content a.content w0 (HE2.out.1.on HB.out.2.2) (HE2.out.2.on HB.out.2.2))
  rw [eqb_same] at HCL
  go_wp2_with fail
  refine HCL.out.mono ?_
  rintro e w1 ⟨rfl, hb1⟩
  have HBw1 := Lib.hid (⟨HB.out.1.on hb1, HB.out.2.1.on hb1, HB.out.2.2.trans (hb1.mono HB.out.2.2.size)⟩ : Blk w1 w.heap.size 95 #[.string (toB a.key), .bool a.present, .slice s32 a.content.length t32, .slice s33 a.path.length t33] ∧ Blk w1 (w.heap.size + 1) 95 #[.string (toB a.key), .bool a.present, .slice s42 a.content.length t42, .slice s43 a.path.length t43] ∧ Below w.heap.size w w1)
  clear HCL HB hb1
  clear d10 d20 d11 d21 d12 d22 nn0 nn1
  have d13 : w1.cell? ⟨w.heap.size, 3, none⟩ = some (.slice s33 a.path.length t33) := HBw1.out.1.cell 3
  have d23 : w1.cell? ⟨w.heap.size + 1, 3, none⟩ = some (.slice s43 a.path.length t43) := HBw1.out.2.1.cell 3
  go_wp2
  clear d13 d23
  go_loopg [5] a.path.length (fun m i wr => ∃ k : Nat, m + k = a.path.length ∧ i = .int .i64 k ∧ Blk wr w.heap.size 95 #[.string (toB a.key), .bool a.present, .slice s32 a.content.length t32, .slice s33 a.path.length t33] ∧ Blk wr (w.heap.size + 1) 95 #[.string (toB a.key), .bool a.present, .slice s42 a.content.length t42, .slice s43 a.path.length t43] ∧ Below w.heap.size w wr)
  case atStart => exact ⟨0, by omega, rfl, HBw1.out⟩
  case round =>
    rename World => w1
    obtain ⟨k, hmk, rfl, hb⟩ := hrel
    have HM := Lib.hid hmk
    have HB := Lib.hid hb
    have hk : k ≤ a.path.length := by omega
    have hk0 : (0 : Int) ≤ (k : Int) := by omega
    clear hmk hb
    have d1 : w1.cell? ⟨w.heap.size, 3, none⟩ = some (.slice s33 a.path.length t33) := HB.out.1.cell 3
    have d2 : w1.cell? ⟨w.heap.size + 1, 3, none⟩ = some (.slice s43 a.path.length t43) := HB.out.2.1.cell 3
    by_cases hlt : k < a.path.length
    · have hki : (k : Int) < a.path.length := by omega
      obtain ⟨b1, o1, c1, cs1, e1, -, -, hn1, -, g1, q1⟩ := ReadsD.item (f := fun s => [bytesD s]) HE3.out.1 hlt
      obtain ⟨b2, o2, c2, cs2, e2, -, -, hn2, -, g2, q2⟩ := ReadsD.item (f := fun s => [bytesD s]) HE3.out.2 hlt
      injection e1 with e1 e3 e4
      injection e2 with e2 e5 e6
      subst e1 e2
      clear e3 e4 e5 e6
      generalize a.path[k] = x at *
      have HLT := Lib.hid hlt
      clear hlt
      obtain ⟨v10, cs1, rfl, r10, qq10⟩ := CellsD.cons q1
      clear q1
      obtain ⟨s10, t10, rfl, -⟩ := r10.bslc
      have en1 := CellsD.nil qq10
      subst en1
      clear qq10
      obtain ⟨v20, cs2, rfl, r20, qq20⟩ := CellsD.cons q2
      clear q2
      obtain ⟨s20, t20, rfl, -⟩ := r20.bslc
      have en2 := CellsD.nil qq20
      subst en2
      clear qq20
      have HC1 := Lib.hid (fun (wq : World) (hq : Below w.heap.size w wq) => show wq.cell? ⟨b1, o1 + k, none⟩ = some (.slice s10 x.length t10) from (by have h := g1 wq hq 0 _ rfl; simpa using h))
      have HC2 := Lib.hid (fun (wq : World) (hq : Below w.heap.size w wq) => show wq.cell? ⟨b2, o2 + k, none⟩ = some (.slice s20 x.length t20) from (by have h := g2 wq hq 0 _ rfl; simpa using h))
      have HE0 := Lib.hid (And.intro r10 r20)
      clear r10 r20
      clear g1 g2
      clear d1 d2 hk
      have d1 : w1.cell? ⟨w.heap.size, 3, none⟩ = some (.slice (some ⟨b1, o1, none⟩) a.path.length t33) := HB.out.1.cell 3
      go_wp2_with fail
      refine region_left [.is (.pointer (some ⟨w.heap.size, 3, none⟩)), .is (.slice (some ⟨b1, o1, none⟩) a.path.length t33), .is (.int .i64 (k : Int)), .is (.pointer (some ⟨b1, o1 + k, none⟩)), .is (.slice s10 x.length t10), .is (.pointer (some ⟨w.heap.size + 1, 3, none⟩)), .is (.slice (some ⟨b2, o2, none⟩) a.path.length t43), .is (.int .i64 (k : Int)), .is (.pointer (some ⟨b2, o2 + k, none⟩)), .is (.slice s20 x.length t20), .is (.bool true), .is (.bool false)] (by kernel_rfl) rfl (by kernel_rfl) (by kernel_rfl) (.cons ?e_0 (.cons ?e_1 (.cons ?e_2 (.cons ?e_3 (.cons ?e_4 (.cons ?e_5 (.cons ?e_6 (.cons ?e_7 (.cons ?e_8 (.cons ?e_9 (.cons ?e_10 (.cons ?e_11 .nil)))))))))))) ?e_fin
      case e_0 =>
        intro wq hbw st  K hK
        have KQ := HB.out.2.2.trans (hbw.mono HB.out.2.2.size)
        simp only [Act.put, List.setIfInBounds_toArray, List.set_cons_zero, List.set_cons_succ] at hK ⊢
        unfold opStep
        rw [if_pos (by rfl)]
        go_simp
        exact hK.out _ _ (Below.refl _ _) rfl _ rfl
      case e_1 =>
        intro wq hbw st  K hK
        have KQ := HB.out.2.2.trans (hbw.mono HB.out.2.2.size)
        simp only [Act.put, List.setIfInBounds_toArray, List.set_cons_zero, List.set_cons_succ] at hK ⊢
        unfold opStep
        rw [if_pos (by rfl)]
        have d0 : wq.cell? ⟨w.heap.size, 3, none⟩ = some (.slice (some ⟨b1, o1, none⟩) a.path.length t33) := (HB.out.1.on hbw).cell 3
        go_simp
        exact hK.out _ _ (Below.refl _ _) rfl _ rfl
      case e_2 =>
        intro wq hbw st  K hK
        have KQ := HB.out.2.2.trans (hbw.mono HB.out.2.2.size)
        simp only [Act.put, List.setIfInBounds_toArray, List.set_cons_zero, List.set_cons_succ] at hK ⊢
        unfold opStep
        rw [if_pos (by rfl)]
        go_simp
        exact hK.out _ _ (Below.refl _ _) rfl _ rfl
      case e_3 =>
        intro wq hbw st  K hK
        have KQ := HB.out.2.2.trans (hbw.mono HB.out.2.2.size)
        simp only [Act.put, List.setIfInBounds_toArray, List.set_cons_zero, List.set_cons_succ] at hK ⊢
        unfold opStep
        rw [if_pos (by rfl)]
        go_simp
        exact hK.out _ _ (Below.refl _ _) rfl _ rfl
      case e_4 =>
        intro wq hbw st  K hK
        have KQ := HB.out.2.2.trans (hbw.mono HB.out.2.2.size)
        simp only [Act.put, List.setIfInBounds_toArray, List.set_cons_zero, List.set_cons_succ] at hK ⊢
        unfold opStep
        rw [if_pos (by rfl)]
        have dd := Lib.hid (HC1.out wq KQ)
        have d0 := dd.out
        go_simp
        exact hK.out _ _ (Below.refl _ _) rfl _ rfl
      case e_5 =>
        intro wq hbw st  K hK
        have KQ := HB.out.2.2.trans (hbw.mono HB.out.2.2.size)
        simp only [Act.put, List.setIfInBounds_toArray, List.set_cons_zero, List.set_cons_succ] at hK ⊢
        unfold opStep
        rw [if_pos (by rfl)]
        go_simp
        exact hK.out _ _ (Below.refl _ _) rfl _ rfl
      case e_6 =>
        intro wq hbw st  K hK
        have KQ := HB.out.2.2.trans (hbw.mono HB.out.2.2.size)
        simp only [Act.put, List.setIfInBounds_toArray, List.set_cons_zero, List.set_cons_succ] at hK ⊢
        unfold opStep
        rw [if_pos (by rfl)]
        have d0 : wq.cell? ⟨w.heap.size + 1, 3, none⟩ = some (.slice (some ⟨b2, o2, none⟩) a.path.length t43) := (HB.out.2.1.on hbw).cell 3
        go_simp
        exact hK.out _ _ (Below.refl _ _) rfl _ rfl
      case e_7 =>
        intro wq hbw st  K hK
        have KQ := HB.out.2.2.trans (hbw.mono HB.out.2.2.size)
        simp only [Act.put, List.setIfInBounds_toArray, List.set_cons_zero, List.set_cons_succ] at hK ⊢
        unfold opStep
        rw [if_pos (by rfl)]
        go_simp
        exact hK.out _ _ (Below.refl _ _) rfl _ rfl
      case e_8 =>
        intro wq hbw st  K hK
        have KQ := HB.out.2.2.trans (hbw.mono HB.out.2.2.size)
        simp only [Act.put, List.setIfInBounds_toArray, List.set_cons_zero, List.set_cons_succ] at hK ⊢
        unfold opStep
        rw [if_pos (by rfl)]
        go_simp
        exact hK.out _ _ (Below.refl _ _) rfl _ rfl
      case e_9 =>
        intro wq hbw st  K hK
        have KQ := HB.out.2.2.trans (hbw.mono HB.out.2.2.size)
        simp only [Act.put, List.setIfInBounds_toArray, List.set_cons_zero, List.set_cons_succ] at hK ⊢
        unfold opStep
        rw [if_pos (by rfl)]
        have dd := Lib.hid (HC2.out wq KQ)
        have d0 := dd.out
        go_simp
        exact hK.out _ _ (Below.refl _ _) rfl _ rfl
      case e_10 =>
        intro wq hbw st  K hK
        have KQ := HB.out.2.2.trans (hbw.mono HB.out.2.2.size)
        simp only [Act.put, List.setIfInBounds_toArray, List.set_cons_zero, List.set_cons_succ] at hK ⊢
        unfold opStep
        rw [if_pos (by rfl)]
        go_simp
        have hpc := same_bytes _ _ x x wq (HE0.out.1.on KQ) (HE0.out.2.on KQ)
        rw [eqb_same] at hpc
        refine hpc.mono ?_
        rintro e wz ⟨rfl, hbz⟩
        go_simp
        exact hK.out _ _ hbz rfl _ rfl
      case e_11 =>
        intro wq hbw st  K hK
        have KQ := HB.out.2.2.trans (hbw.mono HB.out.2.2.size)
        simp only [Act.put, List.setIfInBounds_toArray, List.set_cons_zero, List.set_cons_succ] at hK ⊢
        unfold opStep
        rw [if_pos (by rfl)]
        go_simp
        exact hK.out _ _ (Below.refl _ _) rfl _ rfl
      case e_fin =>
        intro wq hbw
        try simp only [FinAll]
        simp only [Act.put, List.setIfInBounds_toArray, List.set_cons_zero, List.set_cons_succ]
        have HB2 := Lib.hid (⟨HB.out.1.on hbw, HB.out.2.1.on hbw, HB.out.2.2.trans (hbw.mono HB.out.2.2.size)⟩ : _ ∧ _ ∧ _)
        clear hbw
        go_wp2
        go_roundg (a.path.length - (k + 1))
        case measure => have := HM.out; have := HLT.out; omega
        case rel => exact ⟨k + 1, by have := HLT.out; omega, by go_num, HB2.out⟩
    · have hki : ¬ (k : Int) < a.path.length := by omega
      go_wp2
      go_ret
      exact ⟨rfl, HB.out.2.2⟩
end Go.Proofs.Ytmcdmcnbnnfhnaa
