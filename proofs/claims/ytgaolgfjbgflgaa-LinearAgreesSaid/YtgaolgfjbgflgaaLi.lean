/-
  Chapter 56: the search itself.
-/
import Derived.Test.YtgaolgfjbgflgaaLg2
import Derived.Test.YtgaolgfjbgflgaaLh
namespace Go.Proofs.Ytgaolgfjbgflgaa
open Go.RowKit

/-- A search in a world: its block, its memo, nothing from before it is touched. -/
structure Fd (W0 w : World) (gs gm : Nat) (hv : Value) (h : List Opn) (steps : Int) (n : Nat) (M : Memo) : Prop where
  blk : Blk w gs 58 (srchA hv (mustK h h.length) (aftN h) gm steps)
  map : MapAt entT w gm n M
  bs : W0.heap.size ≤ gs
  bm : W0.heap.size ≤ gm
  ne : gs ≠ gm
  bel : Below W0.heap.size W0 w
section
variable {W0 w w' : World} {gs gm n : Nat} {hv : Value} {h : List Opn} {steps : Int} {M : Memo}
theorem Fd.on (f : Fd W0 w gs gm hv h steps n M) (hb : Below w.heap.size w w') : Fd W0 w' gs gm hv h steps n M := ⟨f.blk.on hb, f.map.on hb, f.bs, f.bm, f.ne, f.bel.trans (hb.mono f.bel.size)⟩
theorem Fd.steps_ (f : Fd W0 w gs gm hv h steps n M) (x : Int) : Fd W0 (w.setCell ⟨gs, 19, none⟩ (.int .i64 x)) gs gm hv h x n M :=
  ⟨f.blk.set_ 19 _, f.map.setCell (fun e => f.ne e.symm) _, f.bs, f.bm, f.ne, f.bel.setCell f.bs _⟩
theorem Fd.put (f : Fd W0 w gs gm hv h steps n M) {M' : Memo} {n' : Nat} (hm : MapAt entT w' gm n' M') (hg : w.grownBy w' (some gm)) : Fd W0 w' gs gm hv h steps n' M' :=
  ⟨(hg.block gs f.blk.lt (fun e => f.ne (by injection e))).trans f.blk, hm, f.bs, f.bm, f.ne, f.bel.grown hg f.bel.size (fun j hj => by injection hj with hj; subst hj; exact f.bm)⟩
end
def FindPost (W0 : World) (gs gm : Nat) (hv : Value) (h : List Opn) (m : Nat) (bud : Int) (M : Memo) (E : List Nat) (n st R : Nat) (e : Ending) (w' : World) : Prop :=
  (∃ M' E' n' st', e = .returned (.tuple #[.bool (G h m), .bool false]) ∧ Fd W0 w' gs gm hv h ((st' : Nat) : Int) n' M' ∧ Mem h M' E' n' st' R ∧ Grown M M' E E' m ∧ n' + st ≤ st' + n ∧ (G h m = true → doneB h m = true ∨ (M' m).isSome = true)) ∨
  (e = .returned (.tuple #[.bool false, .bool true]) ∧ bud ≤ ((h.length * 2 ^ h.length : Nat) : Int) ∧ Below W0.heap.size W0 w')
theorem find_ok {W0 : World} {gs gm : Nat} {hv : Value} {h : List Opn} {m : Nat} {bud : Int} {M : Memo} {E : List Nat} {n st R : Nat} {w' : World} {M' : Memo} {E' : List Nat} {n' st' : Nat} {g : Bool} (hg : G h m = g)
    (f : Fd W0 w' gs gm hv h ((st' : Nat) : Int) n' M') (hm : Mem h M' E' n' st' R) (hgr : Grown M M' E E' m) (hns : n' + st ≤ st' + n) (hd : G h m = true → doneB h m = true ∨ (M' m).isSome = true) :
    FindPost W0 gs gm hv h m bud M E n st R (.returned (.tuple #[.bool g, .bool false])) w' := .inl ⟨M', E', n', st', by rw [hg], f, hm, hgr, hns, hd⟩
theorem find_full {W0 : World} {gs gm : Nat} {hv : Value} {h : List Opn} {m : Nat} {bud : Int} {M : Memo} {E : List Nat} {n st R : Nat} {w' : World} (hb : bud ≤ ((h.length * 2 ^ h.length : Nat) : Int)) (hw : Below W0.heap.size W0 w') :
    FindPost W0 gs gm hv h m bud M E n st R (.returned (.tuple #[.bool false, .bool true])) w' := .inr ⟨rfl, hb, hw⟩
theorem andNot_done {h : List Opn} {m : Nat} (hn : h.length ≤ 16) (hm : m < 65536) : doneB h m = true ↔ mustK h h.length &&& (4294967295 - m) = 0 := by
  have e : 4294967295 - m = 2 ^ 32 - (m + 1) := by omega
  have hb : ∀ i, (mustK h h.length &&& (4294967295 - m)).testBit i = ((decide (i < h.length) && decide (0 ≤ endO (nth h i))) && (decide (i < 32) && !m.testBit i)) := fun i => by
    rw [Nat.testBit_and, e, Nat.testBit_two_pow_sub_succ (by omega)]
    unfold mustK
    rw [maskP_bit]
  rw [done_iff]
  constructor
  · intro hd
    apply Nat.eq_of_testBit_eq
    intro i
    rw [hb, Nat.zero_testBit]
    by_cases h1 : i < h.length
    · by_cases h2 : 0 ≤ endO (nth h i)
      · rw [hd i h1 h2]; simp
      · rw [decide_eq_false h2]; simp
    · rw [decide_eq_false h1]; rfl
  · intro h0 i h1 h2
    have := hb i
    rw [h0, Nat.zero_testBit, decide_eq_true h1, decide_eq_true h2, decide_eq_true (show i < 32 by omega)] at this
    simpa using this
theorem goB_no {h : List Opn} {m i : Nat} (hm : mayB h m i = false) : goB h m i = false := by unfold goB; rw [hm]; rfl

set_option maxRecDepth 100000 in
set_option maxHeartbeats 16000000 in
theorem find_any (W0 : World) (gs gm : Nat) (hv : Value) (h : List Opn) (hr : ReadsO W0 hv h) (hs : SmallH h) (hn : h.length ≤ 16) :
    ∀ (d m : Nat) (bud : Int) (M : Memo) (E : List Nat) (n st R : Nat) (w : World), freeK m h.length < d → m < 2 ^ h.length → Fd W0 w gs gm hv h ((st : Nat) : Int) n M → Mem h M E n st R → (∀ s ∈ E, Sub m s → (M s).isSome = true) →
      Calls Try.prog 30 #[.pointer (some ⟨gs, 0, none⟩), .int .u32 (m : Int), .int .i64 bud] w (FindPost W0 gs gm hv h m bud M E n st R) := by
  have HR := Lib.hid hr
  have HS := Lib.hid hs
  obtain ⟨ao, cap, rfl, hl, hcm, -, -⟩ := hr
  unfold maxLen at hcm
  clear hs
  intro d
  induction d with
  | zero => intro m bud M E n st R w hd; omega
  | succ d ih =>
    intro m bud M E n st R w hd hm f hmem hpre
    have IH := Lib.hid ih
    have HD := Lib.hid hd
    have HF := Lib.hid f
    have HMM := Lib.hid hmem
    have HPRE := Lib.hid hpre
    have HML := Lib.hid hm
    have hm16 : m < 65536 := Nat.lt_of_lt_of_le hm (Nat.pow_le_pow_right (by omega) hn)
    have hsm := hmem.small hn
    have hmu : mustK h h.length < 65536 := mask16 _ hn
    have han := u32_andNot_nat (mustK h h.length) m (by omega) (by omega)
    have HDN := Lib.hid (andNot_done hn hm16)
    have g1 := f.blk.cell 1
    have g1' : w.cell? ⟨gs, 1, none⟩ = some (.int .u32 ((mustK h h.length : Nat) : Int)) := g1
    have g0 : w.cell? ⟨gs, 0, none⟩ = some (.slice ao h.length cap) := f.blk.cell 0
    have g18 : w.cell? ⟨gs, 18, none⟩ = some (.map (some gm)) := f.blk.cell 18
    have hgl := f.blk.lt
    generalize mustK h h.length &&& (4294967295 - m) = A at *
    clear ih hd f hmem hpre hm g1
    go_enter Try.func30, Try.ntmps30
    by_cases hA : A = 0
    · have HDO := Lib.hid (HDN.out.2 hA)
      have HG : Hid (G h m = true) := Lib.hid (G_iff.2 (.inl HDO.out))
      rw [hA] at han
      clear hA HDN
      go_wp2
      go_ret2
      exact find_ok HG.out HF.out HMM.out (Grown.refl _ _ _) (by omega) (fun _ => .inl HDO.out)
    · have HDO : Hid (doneB h m = false) := Lib.hid (Bool.eq_false_iff.2 fun e => hA (HDN.out.1 e))
      have hA1 := beq_f (show ¬ (A : Int) = 0 by omega)
      clear hA HDN
      cases hMm : M m with
      | some e0 =>
        have HMS := Lib.hid hMm
        rcases (HMM.out.ok m e0 hMm).2 with ⟨hg, he, _, _⟩ | ⟨hg, he⟩
        · have HG := Lib.hid hg
          have HV : Hid (entT.V ((M m).getD entT.z0) = .agg #[.bool true, .int .i64 ((nextI h m : Nat) : Int)]) := Lib.hid (by rw [hMm, he]; rfl)
          have HC : Hid ((M m).isSome = true) := Lib.hid (by rw [hMm]; rfl)
          clear hMm hg he
          go_wp2_with (refine wpList_map_ok entT rfl (.tmp 24) (.tmp 25) rfl gm n M m rfl HF.out.map rfl (show m < 4294967296 by omega) HV.out HC.out ?_)
          go_ret2
          exact find_ok HG.out (HF.out.on ((Below.refl _ _).alloc (Nat.le_refl _) _)) HMM.out (Grown.refl _ _ _) (by omega) (fun _ => .inr HC.out)
        · have HG := Lib.hid hg
          have HV : Hid (entT.V ((M m).getD entT.z0) = .agg #[.bool false, .int .i64 0]) := Lib.hid (by rw [hMm, he]; rfl)
          have HC : Hid ((M m).isSome = true) := Lib.hid (by rw [hMm]; rfl)
          clear hMm hg he
          go_wp2_with (refine wpList_map_ok entT rfl (.tmp 24) (.tmp 25) rfl gm n M m rfl HF.out.map rfl (show m < 4294967296 by omega) HV.out HC.out ?_)
          go_ret2
          exact find_ok HG.out (HF.out.on ((Below.refl _ _).alloc (Nat.le_refl _) _)) HMM.out (Grown.refl _ _ _) (by omega) (fun _ => .inr HC.out)
      | none =>
        have HMN := Lib.hid hMm
        have HV : Hid (entT.V ((M m).getD entT.z0) = .agg #[.bool false, .int .i64 0]) := Lib.hid (by rw [hMm]; rfl)
        have HC : Hid ((M m).isSome = false) := Lib.hid (by rw [hMm]; rfl)
        have HEN := Lib.hid (HMM.out.enter HML.out HPRE.out hMm)
        clear hMm
        go_wp2_with (refine wpList_map_ok entT rfl (.tmp 24) (.tmp 25) rfl gm n M m rfl HF.out.map rfl (show m < 4294967296 by omega) HV.out HC.out ?_)
        have HF1 := Lib.hid (HF.out.on ((Below.refl w.heap.size w).alloc (Nat.le_refl _) (.cells #[.bool false, .int .i64 0] 60)))
        have HNM0 := Lib.hid HMN.out
        clear g0 g1' g18 HV HC
        go_loopg [38] h.length (fun mm idx wr => ∃ (j : Nat) (Mj : Memo) (Ej : List Nat) (nj stj : Nat), mm + j = h.length ∧ idx = .int .i64 j ∧ Fd W0 wr gs gm (.slice ao h.length cap) h ((stj : Nat) : Int) nj Mj ∧ Mem h Mj Ej nj stj (R + (h.length - j)) ∧ Grown M Mj (m :: E) Ej m ∧ Mj m = none ∧ nj + st + j ≤ stj + n ∧ ∀ q, q < j → goB h m q = false)
        case atStart => exact ⟨0, M, m :: E, n, st, by omega, rfl, HF1.out, by simpa using HEN.out.1, Grown.refl _ _ _, HMN.out, by omega, fun q hq => by omega⟩
        case round =>
          obtain ⟨j, Mj, Ej, nj, stj, hmj, rfl, fj, memj, grj, hnm, hns, hgo⟩ := hrel
          have HM := Lib.hid hmj
          have HFJ := Lib.hid fj
          have HMJ := Lib.hid memj
          have HGJ := Lib.hid grj
          have HNM := Lib.hid hnm
          have HGO := Lib.hid hgo
          have hj : j ≤ h.length := by omega
          have hsj := memj.small hn
          have hst := memj.steps
          have k19 : wr.cell? ⟨gs, 19, none⟩ = some (.int .i64 ((stj : Nat) : Int)) := fj.blk.cell 19
          have f19 := fj.blk.frozen 19
          have hgs := fj.blk.lt
          clear hmj fj memj grj hnm hgo HF1 HMN HEN
          by_cases hlt : j < h.length
          · have hji : (j : Int) < h.length := by omega
            have hj0 : (0 : Int) ≤ (j : Int) := by omega
            have hj16 : j < 16 := by omega
            have hj32 : (j : Int) < 32 := by omega
            by_cases hb : bud ≤ ((stj : Nat) : Int)
            · have HBU : Hid (bud ≤ ((h.length * 2 ^ h.length : Nat) : Int)) := Lib.hid (by omega)
              clear hst
              go_wp2
              go_ret2
              exact find_full HBU.out HFJ.out.bel
            · have HST := Lib.hid (HMJ.out.step hlt)
              have HF2 := Lib.hid (HFJ.out.steps_ (((stj + 1 : Nat)) : Int))
              have hcast : ((stj : Nat) : Int) + 1 = ((stj + 1 : Nat) : Int) := by omega
              have HMY := Lib.hid (may_any (.slice ao h.length cap) h m j gs (mustK h h.length) gm ((stj + 1 : Nat) : Int) _ (HR.out.on HF2.out.bel) HS.out hn hm16 hlt HF2.out.blk)
              have HCA := Lib.hid hcast
              rw [← hcast] at HF2 HMY
              clear hst hcast
              go_wp2_with fail
              refine HMY.out.mono ?_
              rintro e w3 ⟨rfl, hb3⟩
              have HF3 := Lib.hid (HF2.out.on hb3)
              clear hb3 HMY HF2 k19 f19
              by_cases hmay : mayB h m j = true
              · have HMA := Lib.hid hmay
                have hfk := freeK_add (may_bit hmay) hlt
                have HPR : Hid (∀ s ∈ Ej, Sub (addM m j) s → (Mj s).isSome = true) := Lib.hid fun s hs hsub => by
                  by_cases h1 : s ∈ m :: E
                  · rcases List.mem_cons.1 h1 with h2 | h2
                    · have := hsub.bit
                      rw [h2, may_bit HMA.out] at this; cases this
                    · have h3 := HPRE.out s h2 hsub.of_add
                      rw [HGJ.out.keep s h3]; exact h3
                  · exact HGJ.out.eMem s hs h1
                have hf3 := HF3.out
                rw [HCA.out] at hf3
                have HCALL := Lib.hid (IH.out (addM m j) bud Mj Ej nj (stj + 1) (R + (h.length - (j + 1))) w3 (by have := HD.out; omega) (addM_lt HML.out hlt) hf3 HST.out HPR.out)
                have hshl := shl_u32 hj16
                have hor := or_u32 hm16 hj16
                rw [hmay]
                clear hmay hf3 hfk
                go_wp2_with fail
                refine HCALL.out.mono ?_
                rintro e w4 (⟨M4, E4, n4, st4, rfl, f4, mem4, gr4, hns4, hd4⟩ | ⟨rfl, hbu, hbel⟩)
                · have HF4 := Lib.hid f4
                  have HM4 := Lib.hid mem4
                  have HG4 := Lib.hid (HGJ.out.trans gr4)
                  have HD4 := Lib.hid hd4
                  have HK4 : Hid (M4 m = none) := Lib.hid (by
                    cases hq : M4 m with
                    | none => rfl
                    | some e =>
                      rcases gr4.new m (by rw [hq]; rfl) with h1 | h1
                      · rw [HNM.out] at h1; cases h1
                      · have := h1.bit
                        rw [may_bit HMA.out] at this; cases this)
                  have hs4 := mem4.small hn
                  have k18 : w4.cell? ⟨gs, 18, none⟩ = some (.map (some gm)) := f4.blk.cell 18
                  clear f4 mem4 gr4 hd4 HCALL HF3
                  cases hg : G h (addM m j) with
                  | true =>
                    have HGB : Hid (goB h m j = true) := Lib.hid (by unfold goB; rw [HMA.out, hg]; rfl)
                    have HNI := Lib.hid (nextI_at hlt HGB.out HGO.out)
                    have HGM := Lib.hid (G_go hlt HGB.out)
                    have HOK : Hid (MemoOk h (updN M4 m (true, (j : Int)))) := Lib.hid (HM4.out.ok.put HK4.out HDO.out (.inl ⟨HGM.out, by rw [HNI.out], by rw [HNI.out]; exact HD4.out hg, by rw [HNI.out]; exact hlt⟩))
                    have HEI : Hid (m ∈ E4) := Lib.hid (HG4.out.eIn m (by simp))
                    clear hg
                    go_wp2_with (refine wpList_map_put entT rfl (.tmp 74) (.tmp 75) (.tmp 77) rfl gm n4 M4 m (true, (j : Int)) rfl HF4.out.map (by unfold maxLen; omega) rfl (show m < 4294967296 by omega) rfl ?_)
                    intro w5 hm5 hg5
                    have HF5 := Lib.hid (HF4.out.put hm5 hg5)
                    clear hm5 hg5
                    go_wp2
                    go_ret2
                    exact find_ok HGM.out HF5.out ((HM4.out.put HEI.out HOK.out (by have := HMJ.out.ns; omega)).less (Nat.le_add_right _ _)) (HG4.out.put HNM0.out) (by omega) (fun _ => .inr (by show (updN M4 m (true, (j : Int)) m).isSome = true; unfold updN; rw [if_pos rfl]; rfl))
                  | false =>
                    have HGN : Hid (∀ q, q < j + 1 → goB h m q = false) := Lib.hid fun q hq => by
                      by_cases h1 : q = j
                      · rw [h1]; unfold goB; rw [hg, Bool.and_false]
                      · exact HGO.out q (by omega)
                    clear hg k18
                    go_wp2
                    go_roundg (h.length - (j + 1))
                    case measure => have := HM.out; omega
                    case rel => exact ⟨j + 1, M4, E4, n4, st4, by omega, by go_num, HF4.out, HM4.out, HG4.out, HK4.out, by omega, HGN.out⟩
                · have HBU := Lib.hid hbu
                  have HBE := Lib.hid hbel
                  clear hbu hbel HCALL HF3
                  go_wp2
                  go_ret2
                  exact find_full HBU.out HBE.out
              · have HGN : Hid (∀ q, q < j + 1 → goB h m q = false) := Lib.hid fun q hq => by
                  by_cases h1 : q = j
                  · rw [h1]; exact goB_no (Bool.eq_false_iff.2 hmay)
                  · exact HGO.out q (by omega)
                rw [Bool.eq_false_iff.2 hmay]
                clear hmay
                have hf3 := HF3.out
                rw [HCA.out] at hf3
                have HF4 := Lib.hid hf3
                clear hf3
                go_wp2
                go_roundg (h.length - (j + 1))
                case measure => have := HM.out; omega
                case rel => exact ⟨j + 1, Mj, Ej, nj, stj + 1, by omega, by go_num, HF4.out, HST.out, HGJ.out, HNM.out, by omega, HGN.out⟩
          · have HGF : Hid (G h m = false) := Lib.hid (G_no HDO.out fun q hq => HGO.out q (by omega))
            have HOK : Hid (MemoOk h (updN Mj m (false, 0))) := Lib.hid (HMJ.out.ok.put HNM.out HDO.out (.inr ⟨HGF.out, rfl⟩))
            have HEI : Hid (m ∈ Ej) := Lib.hid (HGJ.out.eIn m (by simp))
            have k18 : wr.cell? ⟨gs, 18, none⟩ = some (.map (some gm)) := HFJ.out.blk.cell 18
            have hlen0 : 0 < h.length := by
              rcases Nat.eq_zero_or_pos h.length with h0 | h0
              · have := HDO.out
                rw [show doneB h m = true from done_iff.2 fun i hi => by omega] at this; cases this
              · exact h0
            clear hst k19 f19
            go_wp2_with (refine wpList_map_put entT rfl (.tmp 82) (.tmp 83) (.tmp 84) rfl gm nj Mj m (false, 0) rfl HFJ.out.map (by unfold maxLen; omega) rfl (show m < 4294967296 by omega) rfl ?_)
            intro w5 hm5 hg5
            have HF5 := Lib.hid (HFJ.out.put hm5 hg5)
            clear hm5 hg5
            go_wp2
            go_ret2
            exact find_ok HGF.out HF5.out ((HMJ.out.put HEI.out HOK.out (by have := HMM.out.ns; omega)).less (Nat.le_add_right _ _)) (HGJ.out.put HNM0.out) (by omega) (fun e => by rw [HGF.out] at e; cases e)
end Go.Proofs.Ytgaolgfjbgflgaa
