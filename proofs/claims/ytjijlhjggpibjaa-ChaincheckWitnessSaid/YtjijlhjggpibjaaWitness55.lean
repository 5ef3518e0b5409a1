/-
  ChaincheckWitness: for all histories the law returns true, and what came in reads behind the call as before. No condition.
-/
import Derived.Test.YtjijlhjggpibjaaGo
import Derived.Test.YtjijlhjggpibjaaHq
import Derived.Deep.DeepCutAuto
namespace Go.Proofs.Ytjijlhjggpibjaa.chaincheckWitness
open Go.ChangeShapes Go.WideShapes Go.ChangeAt Go.RowKit

/-- Three operations in an array. -/
def arr3 (X : Nat → Opn) (va vz : Nat → Value) : List Value := opCs (X 0) (va 0) (vz 0) ++ opCs (X 1) (va 1) (vz 1) ++ opCs (X 2) (va 2) (vz 2)
structure ArrR (w : World) (g : Nat) (X : Nat → Opn) (va vz : Nat → Value) : Prop where
  blk : Blk w g 37 (arr3 X va vz).toArray
  ra : ∀ j, Reads vs w (va j) (addO (X j))
  rz : ∀ j, Reads vs w (vz j) (seeO (X j))
theorem ArrR.on {w w' : World} {g : Nat} {X : Nat → Opn} {va vz : Nat → Value} (h : ArrR w g X va vz) (hb : Below w.heap.size w w') : ArrR w' g X va vz := ⟨h.blk.on hb, fun j => (h.ra j).keep hb, fun j => (h.rz j).keep hb⟩
theorem ArrR.range {w : World} {g : Nat} {X : Nat → Opn} {va vz : Nat → Value} (h : ArrR w g X va vz) {j : Nat} (hj : j < 3) : w.rangeAt g (j * 6) (opCs (X j) (va j) (vz j)) := fun i u hu => by
  rw [h.blk.cell, ← hu, List.getElem?_toArray]
  have hi : i < 6 := (List.getElem?_eq_some_iff.1 hu).1
  have h3 : j = 0 ∨ j = 1 ∨ j = 2 := by omega
  unfold arr3
  rcases h3 with rfl | rfl | rfl
  · rw [List.getElem?_append_left (by simp [opCs]; omega), List.getElem?_append_left (by simp [opCs]; omega)]
    congr 1; omega
  · rw [List.getElem?_append_left (by simp [opCs]; omega), List.getElem?_append_right (by simp [opCs])]
    congr 1; simp [opCs]
  · rw [List.getElem?_append_right (by simp [opCs])]
    congr 1; simp [opCs]
theorem ArrR.there {w : World} {g : Nat} {X : Nat → Opn} {va vz : Nat → Value} (h : ArrR w g X va vz) {j : Nat} (hj : j < 3) : w.there g (j * 6) 6 := fun i hi => by
  refine ⟨?_, h.blk.frozen _⟩
  rw [h.blk.cell, Array.getElem?_eq_getElem (by simp [arr3, opCs]; omega)]
  rfl
def upF {α : Type} (f : Nat → α) (k : Nat) (x : α) : Nat → α := fun j => if j = k then x else f j
set_option maxHeartbeats 4000000 in
theorem ArrR.put {W w : World} {g : Nat} {X : Nat → Opn} {va vz : Nat → Value} (h : ArrR w g X va vz) {k : Nat} (hk : k < 3) {o : Opn} {ua uz : Value} (hg : W.heap.size ≤ g) (hbw : Below W.heap.size W w) (ha : Reads vs W ua (addO o)) (hz : Reads vs W uz (seeO o)) (hX : ∀ j, Reads vs W (va j) (addO (X j))) (hZ : ∀ j, Reads vs W (vz j) (seeO (X j))) :
    ArrR (w.setCells g (k * 6) (opCs o ua uz)) g (upF X k o) (upF va k ua) (upF vz k uz) ∧ Below W.heap.size W (w.setCells g (k * 6) (opCs o ua uz)) ∧ (∀ j, Reads vs W (upF va k ua j) (addO (upF X k o j))) ∧ ∀ j, Reads vs W (upF vz k uz j) (seeO (upF X k o j)) := by
  have hb2 : Below W.heap.size W (w.setCells g (k * 6) (opCs o ua uz)) := below_setCellsI hg _ _ w hbw
  have h1 : ∀ j, Reads vs W (upF va k ua j) (addO (upF X k o j)) := fun j => by
    unfold upF
    by_cases e : j = k
    · rw [if_pos e, if_pos e]; exact ha
    · rw [if_neg e, if_neg e]; exact hX j
  have h2 : ∀ j, Reads vs W (upF vz k uz j) (seeO (upF X k o j)) := fun j => by
    unfold upF
    by_cases e : j = k
    · rw [if_pos e, if_pos e]; exact hz
    · rw [if_neg e, if_neg e]; exact hZ j
  refine ⟨⟨?_, fun j => (h1 j).keep hb2, fun j => (h2 j).keep hb2⟩, hb2, h1, h2⟩
  have h3 : k = 0 ∨ k = 1 ∨ k = 2 := by omega
  have hB := h.blk
  unfold opCs
  simp only [World.setCells]
  have q := (((((hB.set_ (k * 6) (.int .i64 (cliO o))).set_ (k * 6 + 1) (.int .i64 (kindO o))).set_ (k * 6 + 1 + 1) (.int .i64 (begO o))).set_ (k * 6 + 1 + 1 + 1) (.int .i64 (endO o))).set_ (k * 6 + 1 + 1 + 1 + 1) ua).set_ (k * 6 + 1 + 1 + 1 + 1 + 1) uz
  rcases h3 with rfl | rfl | rfl
  · simp [arr3, opCs, upF] at q ⊢
    exact q
  · simp [arr3, opCs, upF] at q ⊢
    exact q
  · simp [arr3, opCs, upF] at q ⊢
    exact q
theorem one6 (c k b e : Int) (a4 a5 : Option Addr) (n4 c4 n5 c5 : Nat) : (#[Value.int .i64 c, .int .i64 k, .int .i64 b, .int .i64 e, .slice a4 n4 c4, .slice a5 n5 c5].all (·.oneCell')) = true :=
  all_oneCell_toArray (cs := [Value.int .i64 c, .int .i64 k, .int .i64 b, .int .i64 e, .slice a4 n4 c4, .slice a5 n5 c5]) fun u hu => by
    simp only [List.mem_cons, List.not_mem_nil, or_false] at hu
    rcases hu with rfl | rfl | rfl | rfl | rfl | rfl <;> rfl
theorem small_fit {h : List Opn} (hs : SmallH h) (ats : List Nat) (hl : ∀ i ∈ ats, i < h.length) (j : Nat) : fitO (xAt h ats j) := by
  unfold xAt
  cases e : ats[j]? with
  | none => exact ⟨Nat.zero_le _, Nat.zero_le _⟩
  | some i =>
    have h1 := hl i (List.mem_of_getElem? e)
    have h2 := hs.2 _ (nth_mem h1)
    exact ⟨h2.1, h2.2.1⟩

set_option maxRecDepth 100000 in
set_option maxHeartbeats 16000000 in
theorem walk (v : Value) (h : List Opn) (W : World) (hr : ReadsO W v h ∧ ∀ x ∈ h, strOK x) : Calls Try.prog 8 #[v] W (BoolMade W true) := by
  have HR := Lib.hid hr.1
  have HSO := Lib.hid hr.2
  obtain ⟨ao, cap, rfl, hl, hm, -, -⟩ := hr.1
  unfold maxLen at hm
  clear hr
  go_enter Try.func8, Try.ntmps8
  have KW := Lib.hid (Below.refl W.heap.size W)
  go_wp2_with fail
  refine (awake_any _).mono ?_
  rintro e w1 ⟨rfl, hb⟩
  replace HR := Lib.hid (HR.out.on hb)
  replace KW := Lib.hid (KW.out.trans (hb.mono KW.out.size))
  clear hb
  go_wp2_with fail
  refine (large_any _ h w1 HR.out).mono ?_
  rintro e ws ⟨r, rfl, rfl, hsm⟩
  cases r with
  | true =>
    go_wp2
    go_ret
    exact ⟨rfl, KW.out⟩
  | false =>
    have HS := Lib.hid ((hsm rfl).2.1 HSO.out)
    have HL8 := Lib.hid (hsm rfl)
    clear hsm HSO
    go_wp2_with fail
    refine (ck_any _ h _ HR.out HS.out).mono ?_
    rintro e w2 ⟨v2, rfl, hr2, hb⟩
    have hwit := res_wit (h := h)
    replace HR := Lib.hid (HR.out.on hb)
    replace KW := Lib.hid (KW.out.trans (hb.mono KW.out.size))
    clear hb
    generalize resR h = q at *
    rcases hwit with ⟨h3, h1⟩ | ⟨r, ats, h3, h8, rfl, hats, l2, l3, l8, hhold⟩
    · obtain ⟨c, at_⟩ := q
      simp only at h1 h3 hr2
      obtain ⟨a2, k2, rfl, _, _⟩ := slcI hr2
      have h1i : (at_.length : Int) ≤ 1 := by omega
      clear hr2
      go_wp2
      go_ret
      exact ⟨rfl, KW.out⟩
    · simp only at hr2
      have H2 := Lib.hid hr2
      have HH := Lib.hid hhold
      have HAT := Lib.hid hats
      have HFT := Lib.hid (small_fit HS.out ats hats)
      obtain ⟨a2, k2, rfl, hk2, hlk⟩ := slcI hr2
      rw [nn_len] at hlk
      rw [nn_len]
      clear hr2 hhold hats
      have e1 : ¬ ((r : Int) < 3) := by omega
      have e2 : decide ((8 : Int) < (r : Int)) = false := decide_eq_false (by omega)
      have e3 : decide ((ats.length : Int) < 2) = false := decide_eq_false (by omega)
      have e4 : decide ((3 : Int) < (ats.length : Int)) = false := decide_eq_false (by omega)
      obtain ⟨bb, hbb⟩ : ∃ bb, bb = ((r : Int) == 8) := ⟨_, rfl⟩
      have e5 : ((r : Int) == 8) = bb := hbb.symm
      have e6 : ((ats.length : Int) == 3) = bb := by
        rw [hbb, Bool.eq_iff_iff, beq_iff_eq, beq_iff_eq]
        omega
      clear hbb l8
      have HB0 : Hid (ArrR (w2.alloc (.cells (arr3 (fun _ => dfZ) (fun _ => .slice none 0 0) (fun _ => .slice none 0 0)).toArray 37)) w2.heap.size (fun _ => dfZ) (fun _ => .slice none 0 0) (fun _ => .slice none 0 0)) := Lib.hid ⟨Blk.new _ _ _, fun _ => Reads.nil _, fun _ => Reads.nil _⟩
      have KA : Hid (Below w2.heap.size w2 (w2.alloc (.cells (arr3 (fun _ => dfZ) (fun _ => .slice none 0 0) (fun _ => .slice none 0 0)).toArray 37))) := Lib.hid ((Below.refl _ _).alloc (Nat.le_refl _) _)
      go_wp2
      go_loopg [6] ats.length (fun m i wr => ∃ k : Nat, ∃ X va vz, m + k = ats.length ∧ i = .int .i64 ((k : Nat) : Int) ∧ ArrR wr w2.heap.size X va vz ∧ Below w2.heap.size w2 wr ∧ (∀ j, Reads vs w2 (va j) (addO (X j))) ∧ (∀ j, Reads vs w2 (vz j) (seeO (X j))) ∧ (∀ j, j < k → X j = xAt h ats j) ∧ ∀ j, k ≤ j → X j = dfZ)
      case atStart => exact ⟨0, _, _, _, by omega, rfl, HB0.out, KA.out, fun _ => Reads.nil _, fun _ => Reads.nil _, fun j hj => by omega, fun _ _ => rfl⟩
      case round =>
        clear HB0 KA
        obtain ⟨k, X, va, vz, hmk, rfl, harr, hbz, hra, hrz, hx1, hx2⟩ := hrel
        have HM := Lib.hid hmk
        have HAR := Lib.hid harr
        have KZ := Lib.hid hbz
        have HRA := Lib.hid hra
        have HRZ := Lib.hid hrz
        have HX1 := Lib.hid hx1
        have HX2 := Lib.hid hx2
        have hk : k ≤ ats.length := by omega
        clear hmk harr hbz hra hrz hx1 hx2
        by_cases hkl : k < ats.length
        · obtain ⟨h', hx⟩ := nn_at hkl
          obtain ⟨bo, oo, co, hv, hbo, hco⟩ := int_at (H2.out.keep KZ.out) h'
          rw [hx] at hco
          rw [nn_len] at hv
          injection hv with e7 e8 e9
          subst e7
          have hki : (k : Int) < ats.length := by omega
          have hk0 : (0 : Int) ≤ (k : Int) := by omega
          have hk3 : (k : Int) < 3 := by omega
          have hk3n : k < 3 := by omega
          have q0 := hco
          unfold vi at q0
          have HIN := Lib.hid (HAT.out _ (List.getElem_mem hkl))
          have HXE : Hid (xAt h ats k = nth h ats[k]) := Lib.hid (by unfold xAt; rw [List.getElem?_eq_getElem hkl])
          clear e8 e9 hco hbo hx h'
          generalize ats[k] = x at *
          have hxi : (x : Int) < h.length := by have := HIN.out; omega
          have hx0 : ¬ ((x : Int) < 0) := by omega
          have hxd : decide ((x : Int) < 0) = false := decide_eq_false hx0
          have hxn : decide ((h.length : Int) ≤ (x : Int)) = false := decide_eq_false (by omega)
          obtain ⟨b2, off, cap1, a4, c4, a5, c5, hv, _, _, hm4, hm5, hl4, hl5, hcell, r1, r2⟩ := HR.out.at2 HIN.out
          injection hv with e7 e8 e9
          subst e7
          have dd := Lib.hid (hcell wr KZ.out)
          have x0 := dd.out.1
          have x1 := dd.out.2.1
          have x2 := dd.out.2.2.1
          have x3 := dd.out.2.2.2.1
          have x4 := dd.out.2.2.2.2.1
          have x5 := dd.out.2.2.2.2.2
          have HN := Lib.hid (And.intro r1 r2)
          have HXO : Hid (xAt h ats k = h[x]'HIN.out) := Lib.hid (by rw [HXE.out, nth_eq HIN.out])
          have HTH := Lib.hid (HAR.out.there hk3n)
          clear e8 e9 hcell r1 r2 dd HXE
          generalize h[x]'HIN.out = o at *
          have HPU := Lib.hid (HAR.out.put (W := w2) hk3n (o := o) (ua := .slice a4 (addO o).length c4) (uz := .slice a5 (seeO o).length c5) (Nat.le_refl _) KZ.out HN.out.1 HN.out.2 HRA.out HRZ.out)
          have HY1 : Hid (∀ j, j < k + 1 → upF X k o j = xAt h ats j) := Lib.hid fun j hj => by
            unfold upF
            by_cases e : j = k
            · subst e; rw [if_pos rfl]; exact HXO.out.symm
            · rw [if_neg e]; exact HX1.out j (by omega)
          have HY2 : Hid (∀ j, k + 1 ≤ j → upF X k o j = dfZ) := Lib.hid fun j hj => by
            unfold upF
            rw [if_neg (by omega)]
            exact HX2.out j (by omega)
          obtain ⟨ws, hws⟩ : ∃ ws, ws = wr.setCells w2.heap.size (k * 6) (opCs o (.slice a4 (addO o).length c4) (.slice a5 (seeO o).length c5)) := ⟨_, rfl⟩
          have HWS : Hid (wr.setCells w2.heap.size (k * 6) (Array.toList #[.int .i64 (cliO o), .int .i64 (kindO o), .int .i64 (begO o), .int .i64 (endO o), .slice a4 (addO o).length c4, .slice a5 (seeO o).length c5]) = ws) := Lib.hid hws.symm
          rw [← hws] at HPU
          clear hws
          go_wp2_with (refine wpList_store_mid rfl 36 (.tmp 69) (.tmp 68) rfl w2.heap.size (k * 6) #[.int .i64 (cliO o), .int .i64 (kindO o), .int .i64 (begO o), .int .i64 (endO o), .slice a4 (addO o).length c4, .slice a5 (seeO o).length c5] rfl rfl HTH.out op_info (one6 _ _ _ _ _ _ _ _ _ _) ?_; rw [HWS.out])
          have HP2 := HPU
          clear HPU HTH x0 x1 x2 x3 x4 x5 q0
          go_roundg (ats.length - (k + 1))
          case measure => have := HM.out; omega
          case rel => exact ⟨k + 1, _, _, _, by omega, by go_num, HP2.out.1, HP2.out.2.1, HP2.out.2.2.1, HP2.out.2.2.2, HY1.out, HY2.out⟩
        · have hkk : k = ats.length := by omega
          have HXX : Hid (∀ j, X j = xAt h ats j) := Lib.hid fun j => by
            by_cases hj : j < k
            · exact HX1.out j hj
            · rw [HX2.out j (by omega)]
              unfold xAt
              rw [List.getElem?_eq_none (by omega)]
          have HHO := Lib.hid (holds_any r h3 h8 _ _ _ (X 0) (X 1) (X 2) wr ⟨va 0, vz 0, rfl, HAR.out.ra 0, HAR.out.rz 0⟩ ⟨va 1, vz 1, rfl, HAR.out.ra 1, HAR.out.rz 1⟩ ⟨va 2, vz 2, rfl, HAR.out.ra 2, HAR.out.rz 2⟩ (by rw [HXX.out]; exact HFT.out 0) (by rw [HXX.out]; exact HFT.out 1) (by rw [HXX.out]; exact HFT.out 2))
          have HHB : Hid (holdB r (X 0) (X 1) (X 2) = true) := Lib.hid (by rw [HXX.out, HXX.out, HXX.out]; exact HH.out)
          have hR0 := Lib.hid (HAR.out.range (j := 0) (by omega))
          have hR1 := Lib.hid (HAR.out.range (j := 1) (by omega))
          have hR2 := Lib.hid (HAR.out.range (j := 2) (by omega))
          unfold opV at HHO
          subst hkk
          go_wp2_with (first
            | (refine wpList_load_mid rfl 36 (.tmp 71) rfl w2.heap.size 0 rfl (opCs (X 0) (va 0) (vz 0)) _ hR0.out Try.underlying36 rfl op_info ?_)
            | (refine wpList_load_mid rfl 36 (.tmp 73) rfl w2.heap.size 6 rfl (opCs (X 1) (va 1) (vz 1)) _ hR1.out Try.underlying36 rfl op_info ?_)
            | (refine wpList_load_mid rfl 36 (.tmp 75) rfl w2.heap.size 12 rfl (opCs (X 2) (va 2) (vz 2)) _ hR2.out Try.underlying36 rfl op_info ?_))
          refine HHO.out.mono ?_
          rintro e w4 ⟨rfl, hb⟩
          rw [HHB.out]
          have HE := Lib.hid (KW.out.trans ((KZ.out.trans (hb.mono KZ.out.size)).mono KW.out.size))
          clear hb HHO
          go_wp2
          go_ret
          exact ⟨rfl, HE.out⟩

set_option maxRecDepth 100000 in
theorem lifted (os : Os) (started : os.Started) (H : Type) (enc : TypeId × Value → H) :
    ReturnsInHanded {} Try.checked os 8 .any (Rows.chaincheckWitnessSpec.pre6 enc Try.prog Try.f8 Rows.chaincheckWitnessRow.domain false) (Rows.chaincheckWitnessSpec.post enc Try.prog Try.f8 false true false false) := by
  refine returnsInHanded_of_change (C := Try.checked) own started (by kernel_rfl) Try.func8
    (ChangeSpec.witness6 (enc := enc) (C := Try.checked) false ⟨#[], #[.slice none 0 0], []⟩ 8 (by kernel_rfl) (by kernel_rfl) (by kernel_rfl) (by kernel_rfl)) ?_
  intro W base args ds gs before hval0 hW hcnd _
  have hval : ∀ (j : Nat) t v, Try.f8.params[j]? = some t → args[j]? = some v → Value.okWide Try.prog W .any base t v := hval0
  have hW' := hW
  obtain ⟨p, q, hA0, hV, rfl, hfz, hnd⟩ := hW
  have hA : DataW.TrodAll enc Try.prog W 0 (fun _ => true) true Try.f8.params.toList args.toList ds p := hA0
  rw [Try.params8] at hA hval
  obtain ⟨v0, vs0, d0, ds0, p0, q0, hargs, rfl, rfl, t0, r0⟩ := trodAll_cons hA
  obtain ⟨rfl, rfl, rfl⟩ := trodAll_nil r0
  obtain rfl : args = #[v0] := by cases args; simp_all
  obtain ⟨rfl, rfl⟩ := trodVars_none hV
  obtain ⟨x0, h0⟩ := open_ops (hval 0 22 v0 rfl rfl) t0
  refine (walk v0 x0 W h0).mono fun e W' ⟨he, hb⟩ => ?_
  subst he
  exact ⟨_, rfl, law_post laidOut rfl (fun _ _ => rfl) (by kernel_rfl) Try.underlying4 (by rw [Try.params8]; exact fun t ht => by simp at ht; rcases ht with  rfl ; all_goals exact ⟨by kernel_rfl, of_decide_eq_true (by kernel_rfl)⟩) hW' hb⟩

theorem over : Rows.chaincheckWitnessRow.holds Try.pinned (OpenSpec.ofChange Rows.chaincheckWitnessSpec) :=
  OpenClaim.holds_of_wide 8 Try.f8 rfl rfl rfl rfl rfl rfl rfl ⟨rfl, rfl, rfl, rfl, rfl⟩ rfl rfl rfl rfl rfl (by kernel_rfl) Try.func8 (by kernel_rfl)
    (of_decide_eq_true (by kernel_rfl)) (by unfold Func.isWrapper; first | (rw [if_pos (by decide +kernel)]; kernel_rfl) | (rw [if_neg (by decide +kernel)]; exact ⟨rfl, rfl⟩))
    (fun os started H enc _ => lifted os started H enc)

theorem proved : Rows.ChaincheckWitnessSaid := over
end Go.Proofs.Ytjijlhjggpibjaa.chaincheckWitness
