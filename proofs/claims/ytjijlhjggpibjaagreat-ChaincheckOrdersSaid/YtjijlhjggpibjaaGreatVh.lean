/-
  Chapter 55: chaincheck.Check.
-/
import Derived.Test.YtjijlhjggpibjaaGreatVn
import Derived.Test.YtjijlhjggpibjaaGreatRt
namespace Go.Proofs.YtjijlhjggpibjaaGreat
open Go.RowKit Go.Maps

theorem some_at {α β : Type} {A : List α} {f : α → Option β} {a : Nat} {y : β} (ha : a < A.length) (h1 : ∀ a' (h' : a' < A.length), a' < a → f A[a'] = none) (h2 : f A[a] = some y) : A.findSome? f = some y := by
  have hA : A = A.take a ++ A[a] :: A.drop (a + 1) := by rw [← List.drop_eq_getElem_cons ha, List.take_append_drop]
  have hpre : (A.take a).findSome? f = none := by
    rw [List.findSome?_eq_none_iff]
    intro x hx
    obtain ⟨j, hj, rfl⟩ := List.mem_take_iff_getElem.1 hx
    exact h1 j (by omega) (by omega)
  generalize A[a] = x at *
  rw [hA, List.findSome?_append, hpre, List.findSome?_cons, h2]; rfl
theorem some_none {α β : Type} {A : List α} {f : α → Option β} (h : ∀ a (h' : a < A.length), f A[a] = none) : A.findSome? f = none := by
  rw [List.findSome?_eq_none_iff]
  intro x hx
  obtain ⟨j, hj, rfl⟩ := List.getElem_of_mem hx
  exact h j hj
theorem find_at {α : Type} {A : List α} {P : α → Bool} {a : Nat} (ha : a < A.length) (h1 : ∀ a' (h' : a' < A.length), a' < a → P A[a'] = false) (h2 : P A[a] = true) : A.find? P = some A[a] :=
  List.find?_eq_some_iff_getElem.2 ⟨h2, a, ha, rfl, fun j hj => by rw [h1 j (by omega) hj]; rfl⟩
theorem find_none {α : Type} {A : List α} {P : α → Bool} (h : ∀ a (h' : a < A.length), P A[a] = false) : A.find? P = none := by
  rw [List.find?_eq_none]
  intro x hx
  obtain ⟨j, hj, rfl⟩ := List.getElem_of_mem hx
  rw [h j hj]; exact Bool.false_ne_true
/-- A read returned something that no update adds. -/
def unkB (h : List Opn) (r : Nat) : Bool := (seeO (nth h r)).any fun s => !(ownK h h.length s).isSome
def swF (h : List Opn) (u w : Nat) : Option (Nat × Nat × Nat) := if prI h u w = true then ((rdK h h.length).find? fun r => decide (ShowI h r w) && !decide (ShowI h r u)).map (fun r => (u, w, r)) else none
def tripF (h : List Opn) : Option (Nat × Nat × Nat) := (upK h h.length).findSome? fun u => (upK h h.length).findSome? fun w => swF h u w
def res8 (h : List Opn) : Int × List Int := match tripF h with | some (u, w, r) => (8, [(u : Int), (w : Int), (r : Int)]) | none => (0, [])
def pairR (c : Int) (q : Option (Nat × Nat)) (rest : Int × List Int) : Int × List Int := match q with | some (i, k) => (c, [(i : Int), (k : Int)]) | none => rest
def res7 (h : List Opn) : Int × List Int := pairR 7 (pairF (rdK h h.length) (rdK h h.length) (backB h)) (res8 h)
def res6 (h : List Opn) : Int × List Int := pairR 6 (pairF (upK h h.length) (rdK h h.length) (lateB h)) (res7 h)
def res5 (h : List Opn) : Int × List Int := pairR 5 (pairF (rdK h h.length) (upK h h.length) (earlyB h)) (res6 h)
def res4 (h : List Opn) : Int × List Int := pairR 4 (pairF (rdK h h.length) (rdK h h.length) (apartB h)) (res5 h)
def res3 (h : List Opn) : Int × List Int := pairR 3 (pairF (rdK h h.length) (upK h h.length) (tornB h)) (res4 h)
def res2 (h : List Opn) : Int × List Int := match (rdK h h.length).find? (unkB h) with | some r => (2, [(r : Int)]) | none => res3 h
/-- The first reason and its operations. -/
def resR (h : List Opn) : Int × List Int := if (chkL h).2 = 0 then res2 h else (1, [((chkL h).1 : Int)])
def CkMade (W : World) (q : Int × List Int) (e : Ending) (w' : World) : Prop := ∃ v, e = .returned (.tuple #[.int .i64 q.1, v]) ∧ Reads vi w' v q.2 ∧ Below W.heap.size W w'
theorem blk_reads {w : World} {g : Nat} {cs : Array Value} {xs : List Int} (h : Blk w g 3 cs) (hc : cs = (xs.map vi).toArray) (hm : xs.length ≤ 1000) : Reads vi w (.slice (some ⟨g, 0, none⟩) xs.length xs.length) xs :=
  Reads.at (Nat.le_refl _) (by unfold maxLen; omega) h.lt fun j hj => by
    have h1 := h.cell j
    rw [hc] at h1
    rw [Nat.zero_add, h1]
    simp [hj]
/-- What the walk carries. -/
def CS (W0 : World) (hv : Value) (h : List Opn) (g gp : Nat) (vr vu : Value) (nM : Nat) (ms : Nat → Option Nat) (S : Nat → List Str) (w : World) : Prop := Vw W0 w hv h.length g vr vu (rdK h h.length) (upK h h.length) (ownK h h.length) nM ms S ∧ VCell w gp g
theorem CS.on {W0 : World} {hv : Value} {h : List Opn} {g gp : Nat} {vr vu : Value} {nM : Nat} {ms : Nat → Option Nat} {S : Nat → List Str} {w w' : World} (hc : CS W0 hv h g gp vr vu nM ms S w) (hb : Below w.heap.size w w') : CS W0 hv h g gp vr vu nM ms S w' := ⟨hc.1.on hb, hc.2.on hb⟩

set_option maxRecDepth 100000 in
set_option maxHeartbeats 32000000 in
theorem ck_any (v : Value) (h : List Opn) (W : World) (hr : ReadsO W v h) (hs : SmallH h) : Calls Tryz.prog 13 #[v] W (CkMade W (resR h)) := by
  have HR := Lib.hid hr
  have HS := Lib.hid hs
  have HCH := Lib.hid (check_any v h W hr hs)
  have hn := hs.1
  obtain ⟨ao, cap, rfl, hl, hm, -, -⟩ := hr
  unfold maxLen at hm
  clear hs
  unfold ChkMade at HCH
  go_enter Tryz.func13, Tryz.ntmps13
  go_wp2_with fail
  refine HCH.out.mono ?_
  rintro e w1 ⟨rfl, hb1⟩
  have KW1 := Lib.hid hb1
  clear hb1 HCH
  by_cases h0 : (chkL h).2 = 0
  · have HW := Lib.hid (chk_well.1 h0)
    have e0 := bne_f h0
    have HRS : Hid (resR h = res2 h) := Lib.hid (if_pos h0)
    clear h0
    go_wp2_with fail
    refine (look_any _ h w1 (HR.out.on KW1.out) HS.out HW.out).mono ?_
    rintro e w2 ⟨g, rfl, hg, hvr, hb2⟩
    obtain ⟨W0, vr, vu, nM, ms, S, hvw, hse⟩ := hvr
    have HSE := Lib.hid hse
    have KW2 := Lib.hid (KW1.out.trans (hb2.mono KW1.out.size))
    have HA2 : Hid (Below w2.heap.size w2 (w2.alloc (.cells #[.pointer (some ⟨g + 2, 0, none⟩)] 40))) := Lib.hid ((Below.refl _ _).alloc (Nat.le_refl _) _)
    have HCS : Hid (CS W0 (.slice ao h.length cap) h g w2.heap.size vr vu nM ms S (w2.alloc (.cells #[.pointer (some ⟨g + 2, 0, none⟩)] 40))) := Lib.hid ⟨hvw.on HA2.out, Blk.new _ _ _⟩
    have KW : Hid (Below W.heap.size W (w2.alloc (.cells #[.pointer (some ⟨g + 2, 0, none⟩)] 40))) := Lib.hid (KW2.out.alloc KW2.out.size _)
    obtain ⟨ra, rk, rfl⟩ := row_slc hvw.rr
    obtain ⟨uA', uk, rfl⟩ := row_slc hvw.ru
    have V1 : (w2.alloc (.cells #[.pointer (some ⟨g + 2, 0, none⟩)] 40)).cell? ⟨g + 2, 1, none⟩ = some (.slice ra (rdK h h.length).length rk) := HCS.out.1.view.cell 1
    have c0 : (w2.alloc (.cells #[.pointer (some ⟨g + 2, 0, none⟩)] 40)).cell? ⟨w2.heap.size, 0, none⟩ = some (.pointer (some ⟨g + 2, 0, none⟩)) := HCS.out.2.cell
    have hrn := rdK_len h h.length
    have hun := upK_len h h.length
    have hrk : (rdK h h.length).length ≤ rk ∧ rk ≤ 2 ^ 63 - 1 := by
      obtain ⟨a, c, e, h1, h2, _⟩ := Reads.of_owns (enc := vi) hvw.rr
      injection e with _ _ e3
      unfold maxLen at h2
      rw [nn_len] at h1
      omega
    have huk : (upK h h.length).length ≤ uk ∧ uk ≤ 2 ^ 63 - 1 := by
      obtain ⟨a, c, e, h1, h2, _⟩ := Reads.of_owns (enc := vi) hvw.ru
      injection e with _ _ e3
      unfold maxLen at h2
      rw [nn_len] at h1
      omega
    have HRB : Hid (∀ x ∈ rdK h h.length, x < h.length ∧ RdI h x) := Lib.hid fun x hx => mem_rdK.1 hx
    have HUB : Hid (∀ x ∈ upK h h.length, x < h.length ∧ UpI h x) := Lib.hid fun x hx => mem_upK.1 hx
    have HRR : Hid (∀ w, CS W0 (.slice ao h.length cap) h g w2.heap.size (.slice ra (rdK h h.length).length rk) (.slice uA' (upK h h.length).length uk) nM ms S w → Reads vi w (.slice ra (rdK h h.length).length rk) (intsNN (rdK h h.length))) := Lib.hid fun w hw => by
      have h9 := Reads.of_owns (enc := vi) hw.1.rr
      exact h9
    have HUR : Hid (∀ w, CS W0 (.slice ao h.length cap) h g w2.heap.size (.slice ra (rdK h h.length).length rk) (.slice uA' (upK h h.length).length uk) nM ms S w → Reads vi w (.slice uA' (upK h h.length).length uk) (intsNN (upK h h.length))) := Lib.hid fun w hw => by
      have h9 := Reads.of_owns (enc := vi) hw.1.ru
      exact h9
    have HVR : Hid (∀ w, CS W0 (.slice ao h.length cap) h g w2.heap.size (.slice ra (rdK h h.length).length rk) (.slice uA' (upK h h.length).length uk) nM ms S w → ViewR w g (.slice ao h.length cap) h) := Lib.hid fun w hw => ⟨W0, _, _, nM, ms, S, hw.1, HSE.out⟩
    clear hvw hse hb2 hg
    clear KW2 HA2
    go_wp2
    generalize w2.heap.size = gp at *
    generalize World.alloc w2 _ = wa at *
    go_loopg [40] (rdK h h.length).length (fun m i wr => ∃ a : Nat, m + a = (rdK h h.length).length ∧ i = .int .i64 a ∧ (∀ a' (h' : a' < (rdK h h.length).length), a' < a → unkB h (rdK h h.length)[a'] = false) ∧ CS W0 (.slice ao h.length cap) h g gp (.slice ra (rdK h h.length).length rk) (.slice uA' (upK h h.length).length uk) nM ms S wr ∧ Below W.heap.size W wr)
    case atStart => exact ⟨0, by omega, rfl, (fun a' h' hlt => by omega), HCS.out, KW.out⟩
    case round =>
      clear HCS KW V1 c0
      obtain ⟨a, hma, rfl, hall, hcs, hbel⟩ := hrel
      have HM := Lib.hid hma
      have HALL := Lib.hid hall
      have HCS := Lib.hid hcs
      have KW := Lib.hid hbel
      have ha : a ≤ (rdK h h.length).length := by omega
      clear hma hall hcs hbel
      by_cases hal : a < (rdK h h.length).length
      · obtain ⟨h', hx⟩ := nn_at hal
        obtain ⟨bo, oo, co, hv, hbo, hco⟩ := int_at (HRR.out _ HCS.out) h'
        rw [hx] at hco
        injection hv with e1 e2 e3
        subst e1
        have hai : (a : Int) < (rdK h h.length).length := by omega
        have ha0 : (0 : Int) ≤ (a : Int) := by omega
        have q0 := hco
        unfold vi at q0
        have HRM := Lib.hid (HRB.out _ (List.getElem_mem hal))
        have HFA := Lib.hid (fun hp => find_at (P := unkB h) hal HALL.out hp)
        have HNX : Hid (unkB h (rdK h h.length)[a] = false → ∀ a' (h' : a' < (rdK h h.length).length), a' < a + 1 → unkB h (rdK h h.length)[a'] = false) := Lib.hid fun h1 a' h' hlt => by
          by_cases e : a' = a
          · subst e; exact h1
          · exact HALL.out a' h' (by omega)
        clear e2 e3 hco hbo hx h'
        generalize (rdK h h.length)[a] = r at *
        clear hal
        obtain ⟨br, hbr, hSr⟩ := HSE.out r HRM.out.1 HRM.out.2
        have HSB : Hid (SetB wr br (seeO (nth h r)).length (seeO (nth h r))) := Lib.hid (by have h9 := (HCS.out.1.sets r br hbr).2; rwa [hSr] at h9)
        have hri : (r : Int) < h.length := by have := HRM.out.1; omega
        have hr0 : (0 : Int) ≤ (r : Int) := by omega
        have HU1 : Hid ((∀ s ∈ seeO (nth h r), (ownK h h.length s).isSome = true) → unkB h r = false) := Lib.hid fun h1 => by
          unfold unkB
          rw [List.any_eq_false]
          intro s hs
          rw [h1 s hs]; decide
        have HU2 : Hid (∀ s ∈ seeO (nth h r), (ownK h h.length s).isSome = false → unkB h r = true) := Lib.hid fun s h1 h2 => by
          unfold unkB
          rw [List.any_eq_true]
          exact ⟨s, h1, by rw [h2]; rfl⟩
        have HVC : Hid (∀ w, CS W0 (.slice ao h.length cap) h g gp (.slice (some ⟨bo, oo, none⟩) (rdK h h.length).length rk) (.slice uA' (upK h h.length).length uk) nM ms S w → w.cell? ⟨gp, 0, none⟩ = some (.pointer (some ⟨g + 2, 0, none⟩)) ∧ w.cell? ⟨g + 2, 4, none⟩ = some (.slice (some ⟨g + 1, 0, none⟩) h.length h.length) ∧ w.cell? ⟨g + 2, 3, none⟩ = some (.map (some g)) ∧ w.cell? ⟨g + 1, r, none⟩ = some (.map (some br))) := Lib.hid fun w hw =>
          ⟨hw.2.cell, hw.1.view.cell 4, hw.1.view.cell 3, (hw.1.sees.cell r).trans (by rw [msA_at HRM.out.1, hbr])⟩
        have c0 := (HVC.out _ HCS.out).1
        have c4 := (HVC.out _ HCS.out).2.1
        have c1 := (HVC.out _ HCS.out).2.2.2
        clear hbr hSr
        generalize seeO (nth h r) = sr at *
        obtain ⟨G2, hG2⟩ : ∃ G, G = gk := ⟨_, rfl⟩
        subst hG2
        go_wp2_with (refine wpList_range_set rfl (.tmp 50) rfl br sr.length sr rfl HSB.out ?_)
        intro w4 left0 cnt0 hrg0 hleft0 hg0 hs0
        have HRG := Lib.hid hrg0
        have HLE := Lib.hid hleft0
        have K4 := Lib.hid (below_none (Below.refl wr.heap.size wr) hg0 (fun j hj => by cases hj))
        clear hrg0 hleft0 hg0 hs0 c0 c4 c1 q0 HSB
        go_wp2
        go_loopg [9] cnt0 (fun m _ wz => ∃ left : Lit → Bool, RgB wz br wr.heap.size sr left m ∧ (∀ s ∈ sr, left (.string s) = false → (ownK h h.length s).isSome = true) ∧ Below wr.heap.size wr wz)
        case atStart => exact ⟨left0, HRG.out, (fun s hs hl => by rw [HLE.out, decide_eq_true hs] at hl; cases hl), K4.out⟩
        case round =>
          clear HRG K4
          obtain ⟨left, hrg, hall2, hbel2⟩ := hrel
          have HRG := Lib.hid hrg
          have HAL2 := Lib.hid hall2
          have KB := Lib.hid hbel2
          have KWZ := Lib.hid (KW.out.trans (hbel2.mono KW.out.size))
          clear hrg hall2 hbel2
          go_wp2_with (refine wpList_next_set rfl (.tmp 51) rfl br _ sr left _ rfl HRG.out ?_ ?_)
          · intro hdone
            have HE := Lib.hid (HNX.out (HU1.out fun s hs => HAL2.out s hs (hdone s)))
            clear hdone
            go_wp2
            go_roundg ((rdK h h.length).length - (a + 1))
            case measure => have := HM.out; omega
            case rel => exact ⟨a + 1, by omega, by go_num, HE.out, HCS.out.on KB.out, KWZ.out⟩
          · intro s left' w5 cnt1 hsS hsl hrg1 hst hlt5 hg1 hs1 hen
            have HRG1 := Lib.hid hrg1
            have HST := Lib.hid hst
            have HLT := Lib.hid hlt5
            have K5 := Lib.hid (below_none KB.out hg1 (fun j hj => by injection hj with hj; omega))
            have HMS := Lib.hid hsS
            have HCS5 := Lib.hid (HCS.out.on K5.out)
            have c0 := (HVC.out _ HCS5.out).1
            have c3 := (HVC.out _ HCS5.out).2.2.1
            clear hrg1 hst hlt5 hg1 hs1 hsS
            obtain ⟨ov, hov⟩ : ∃ z, z = (ownK h h.length s).getD 0 := ⟨_, rfl⟩
            have HOV : Hid (ownT.V ((ownK h h.length s).getD ownT.z0) = .int .i64 ov) := Lib.hid (by rw [hov]; rfl)
            clear hov
            cases hin : (ownK h h.length s).isSome with
            | true =>
              have HIN := Lib.hid hin
              have HNX2 : Hid (∀ t ∈ sr, left' (.string t) = false → (ownK h h.length t).isSome = true) := Lib.hid fun t ht hl => by
                rcases HST.out t hl with h1 | h1
                · exact HAL2.out t ht h1
                · rw [h1]; exact hin
              clear hin
              go_wp2_with (refine wpList_map_ok ownT rfl (.tmp 60) (.tmp 61) rfl g nM _ s rfl HCS5.out.1.own rfl hsl HOV.out HIN.out ?_)
              go_roundg cnt1
              case measure => exact HLT.out
              case rel => exact ⟨left', HRG1.out, HNX2.out, K5.out⟩
            | false =>
              have HIN := Lib.hid hin
              have HE : Hid (res2 h = (2, [(r : Int)])) := Lib.hid (by unfold res2; rw [HFA.out (HU2.out s HMS.out hin)])
              have HBL : Hid (Reads vi (w5.alloc (.cells #[.int .i64 (r : Int)] 3)) (.slice (some ⟨w5.heap.size, 0, none⟩) 1 1) [(r : Int)]) := Lib.hid (blk_reads (xs := [(r : Int)]) (Blk.new w5 3 #[.int .i64 (r : Int)]) rfl (by simp))
              have KW5 := Lib.hid (KW.out.trans (K5.out.mono KW.out.size))
              clear hin
              go_wp2_with (refine wpList_map_ok ownT rfl (.tmp 60) (.tmp 61) rfl g nM _ s rfl HCS5.out.1.own rfl hsl HOV.out HIN.out ?_)
              refine bodyPost_ret (v := .tuple #[.int .i64 2, .slice (some ⟨w5.heap.size, 0, none⟩) 1 1]) (by simp [results, Tryz.results13, go_sem]) rfl ?_
              rw [HRS.out, HE.out]
              exact ⟨_, rfl, HBL.out, KW5.out.alloc KW5.out.size _⟩
      · have HRES : Hid (res2 h = res3 h) := Lib.hid (by unfold res2; rw [find_none (fun a' h' => HALL.out a' h' (by omega))])
        replace HRS := Lib.hid (HRS.out.trans HRES.out)
        clear HRES HALL
        have hax : ¬ (a : Int) < (rdK h h.length).length := by omega
        obtain ⟨G2, hG2⟩ : ∃ G, G = gk := ⟨_, rfl⟩
        subst hG2
        cases hq : pairF (rdK h h.length) (upK h h.length) (tornB h) with
        | some pq =>
          obtain ⟨pi, pk⟩ := pq
          replace HRS : Hid (resR h = (3, [(pi : Int), (pk : Int)])) := Lib.hid (HRS.out.trans (by unfold res3 pairR; rw [hq]))
          have HQ := Lib.hid hq
          clear hq
          go_upto_region 16 with fail
          refine region_left [.is (.func (.func 33) #[] #[]), .is (.pointer (some ⟨g + 2, 0, none⟩)), .is (.pointer (some ⟨g + 2, 0, none⟩)), .is (.pointer (some ⟨g + 2, 1, none⟩)), .is (.slice ra (rdK h h.length).length rk), .is (.pointer (some ⟨g + 2, 0, none⟩)), .is (.pointer (some ⟨g + 2, 0, none⟩)), .is (.pointer (some ⟨g + 2, 2, none⟩)), .is (.slice uA' (upK h h.length).length uk), .is (.func (.func 34) #[] #[.pointer (some ⟨gp, 0, none⟩)]), .has (fun x w => ∃ gq, x = .slice (some ⟨gq, 0, none⟩) 2 2 ∧ Blk w gq 3 #[.int .i64 ((pi : Nat) : Int), .int .i64 ((pk : Nat) : Int)]) (fun _ _ _ hb ⟨gq, a, b⟩ => ⟨gq, a, b.on hb⟩), .has (fun x w => ∃ gq, x = .slice (some ⟨gq, 0, none⟩) 2 2 ∧ Blk w gq 3 #[.int .i64 ((pi : Nat) : Int), .int .i64 ((pk : Nat) : Int)]) (fun _ _ _ hb ⟨gq, a, b⟩ => ⟨gq, a, b.on hb⟩)] (by kernel_rfl) rfl (by kernel_rfl) (by kernel_rfl) (.cons ?g1_0 (.cons ?g1_1 (.cons ?g1_2 (.cons ?g1_3 (.cons ?g1_4 (.cons ?g1_5 (.cons ?g1_6 (.cons ?g1_7 (.cons ?g1_8 (.cons ?g1_9 (.cons ?g1_10 (.cons ?g1_11 .nil)))))))))))) ?g1_fin
          case g1_0 =>
            intro wq hbw st  K hK
            simp only [Act.put, List.setIfInBounds_toArray, List.set_cons_zero, List.set_cons_succ] at hK ⊢
            unfold opStep
            rw [if_pos (by rfl)]
            go_simp
            exact hK.out _ _ (Below.refl _ _) rfl _ rfl
          case g1_1 =>
            intro wq hbw st  K hK
            simp only [Act.put, List.setIfInBounds_toArray, List.set_cons_zero, List.set_cons_succ] at hK ⊢
            unfold opStep
            rw [if_pos (by rfl)]
            have c0 := (HCS.out.on hbw).2.cell
            go_simp
            exact hK.out _ _ (Below.refl _ _) rfl _ rfl
          case g1_2 =>
            intro wq hbw st  K hK
            simp only [Act.put, List.setIfInBounds_toArray, List.set_cons_zero, List.set_cons_succ] at hK ⊢
            unfold opStep
            rw [if_pos (by rfl)]
            go_simp
            exact hK.out _ _ (Below.refl _ _) rfl _ rfl
          case g1_3 =>
            intro wq hbw st  K hK
            simp only [Act.put, List.setIfInBounds_toArray, List.set_cons_zero, List.set_cons_succ] at hK ⊢
            unfold opStep
            rw [if_pos (by rfl)]
            go_simp
            exact hK.out _ _ (Below.refl _ _) rfl _ rfl
          case g1_4 =>
            intro wq hbw st  K hK
            simp only [Act.put, List.setIfInBounds_toArray, List.set_cons_zero, List.set_cons_succ] at hK ⊢
            unfold opStep
            rw [if_pos (by rfl)]
            have c1 := (HCS.out.on hbw).1.view.cell 1
            go_simp
            exact hK.out _ _ (Below.refl _ _) rfl _ rfl
          case g1_5 =>
            intro wq hbw st  K hK
            simp only [Act.put, List.setIfInBounds_toArray, List.set_cons_zero, List.set_cons_succ] at hK ⊢
            unfold opStep
            rw [if_pos (by rfl)]
            have c0 := (HCS.out.on hbw).2.cell
            go_simp
            exact hK.out _ _ (Below.refl _ _) rfl _ rfl
          case g1_6 =>
            intro wq hbw st  K hK
            simp only [Act.put, List.setIfInBounds_toArray, List.set_cons_zero, List.set_cons_succ] at hK ⊢
            unfold opStep
            rw [if_pos (by rfl)]
            go_simp
            exact hK.out _ _ (Below.refl _ _) rfl _ rfl
          case g1_7 =>
            intro wq hbw st  K hK
            simp only [Act.put, List.setIfInBounds_toArray, List.set_cons_zero, List.set_cons_succ] at hK ⊢
            unfold opStep
            rw [if_pos (by rfl)]
            go_simp
            exact hK.out _ _ (Below.refl _ _) rfl _ rfl
          case g1_8 =>
            intro wq hbw st  K hK
            simp only [Act.put, List.setIfInBounds_toArray, List.set_cons_zero, List.set_cons_succ] at hK ⊢
            unfold opStep
            rw [if_pos (by rfl)]
            have c1 := (HCS.out.on hbw).1.view.cell 2
            go_simp
            exact hK.out _ _ (Below.refl _ _) rfl _ rfl
          case g1_9 =>
            intro wq hbw st  K hK
            simp only [Act.put, List.setIfInBounds_toArray, List.set_cons_zero, List.set_cons_succ] at hK ⊢
            unfold opStep
            rw [if_pos (by rfl)]
            go_simp
            exact hK.out _ _ (Below.refl _ _) rfl _ rfl
          case g1_10 =>
            intro wq hbw st  K hK
            simp only [Act.put, List.setIfInBounds_toArray, List.set_cons_zero, List.set_cons_succ] at hK ⊢
            unfold opStep
            rw [if_pos (by rfl)]
            go_simp
            have hpc := pairs2_any gp (rdK h h.length) (upK h h.length) (tornB h) (.slice ra (rdK h h.length).length rk) (.slice uA' (upK h h.length).length uk) wq (HRR.out wq (HCS.out.on hbw)) (HUR.out wq (HCS.out.on hbw)) (fun x hx => by have := (HRB.out x hx).1; omega) (fun x hx => by have := (HUB.out x hx).1; omega) (fun i hi k hk wz hz => clo2_any gp g (.slice ao h.length cap) h i k wz (HCS.out.on (hbw.trans (hz.mono hbw.size))).2 (HVR.out wz (HCS.out.on (hbw.trans (hz.mono hbw.size)))) (HR.out.on (KW.out.trans ((hbw.trans (hz.mono hbw.size)).mono KW.out.size))) HS.out (HRB.out i hi).1 (HUB.out k hk).1 (HRB.out i hi).2)
            refine hpc.mono ?_
            rintro e wz ⟨hor, hbz⟩
            rcases hor with ⟨ho, _⟩ | ⟨i, k, gq, ho, rfl, _, hbq⟩
            · rw [HQ.out] at ho; cases ho
            · rw [HQ.out] at ho
              injection ho with ho
              injection ho with ho1 ho2
              subst ho1 ho2
              try go_simp
              exact hK.out _ _ hbz ⟨gq, rfl, hbq⟩ _ rfl
          case g1_11 =>
            intro wq hbw st x10 h10 K hK
            simp only [Act.put, List.setIfInBounds_toArray, List.set_cons_zero, List.set_cons_succ] at hK ⊢
            unfold opStep
            rw [if_pos (by rfl)]
            obtain ⟨gq, rfl, hbq⟩ := h10
            go_simp
            exact hK.out _ _ (Below.refl _ _) ⟨gq, rfl, hbq⟩ _ rfl
          case g1_fin =>
            intro wq hbw
            intro x10 h10 x11 h11
            try simp only [FinAll]
            simp only [Act.put, List.setIfInBounds_toArray, List.set_cons_zero, List.set_cons_succ]
            obtain ⟨gq, rfl, hbq⟩ := h11
            have KWF := Lib.hid (KW.out.trans (hbw.mono KW.out.size))
            have HBL : Hid (Reads vi wq (.slice (some ⟨gq, 0, none⟩) 2 2) [(pi : Int), (pk : Int)]) := Lib.hid (blk_reads (xs := [(pi : Int), (pk : Int)]) hbq rfl (by simp))
            clear hbq hbw
            go_wp2
            refine bodyPost_ret (v := .tuple #[.int .i64 3, .slice (some ⟨gq, 0, none⟩) 2 2]) (by simp [results, Tryz.results13, go_sem]) rfl ?_
            rw [HRS.out]
            exact ⟨_, rfl, HBL.out, KWF.out⟩
        | none =>
          replace HRS : Hid (resR h = res4 h) := Lib.hid (HRS.out.trans (by unfold res3 pairR; rw [hq]))
          have HQ := Lib.hid hq
          clear hq
          go_upto_region 16 with fail
          refine region_left [.is (.func (.func 33) #[] #[]), .is (.pointer (some ⟨g + 2, 0, none⟩)), .is (.pointer (some ⟨g + 2, 0, none⟩)), .is (.pointer (some ⟨g + 2, 1, none⟩)), .is (.slice ra (rdK h h.length).length rk), .is (.pointer (some ⟨g + 2, 0, none⟩)), .is (.pointer (some ⟨g + 2, 0, none⟩)), .is (.pointer (some ⟨g + 2, 2, none⟩)), .is (.slice uA' (upK h h.length).length uk), .is (.func (.func 34) #[] #[.pointer (some ⟨gp, 0, none⟩)]), .is (.slice none 0 0), .is (.slice none 0 0)] (by kernel_rfl) rfl (by kernel_rfl) (by kernel_rfl) (.cons ?g2_0 (.cons ?g2_1 (.cons ?g2_2 (.cons ?g2_3 (.cons ?g2_4 (.cons ?g2_5 (.cons ?g2_6 (.cons ?g2_7 (.cons ?g2_8 (.cons ?g2_9 (.cons ?g2_10 (.cons ?g2_11 .nil)))))))))))) ?g2_fin
          case g2_0 =>
            intro wq hbw st  K hK
            simp only [Act.put, List.setIfInBounds_toArray, List.set_cons_zero, List.set_cons_succ] at hK ⊢
            unfold opStep
            rw [if_pos (by rfl)]
            go_simp
            exact hK.out _ _ (Below.refl _ _) rfl _ rfl
          case g2_1 =>
            intro wq hbw st  K hK
            simp only [Act.put, List.setIfInBounds_toArray, List.set_cons_zero, List.set_cons_succ] at hK ⊢
            unfold opStep
            rw [if_pos (by rfl)]
            have c0 := (HCS.out.on hbw).2.cell
            go_simp
            exact hK.out _ _ (Below.refl _ _) rfl _ rfl
          case g2_2 =>
            intro wq hbw st  K hK
            simp only [Act.put, List.setIfInBounds_toArray, List.set_cons_zero, List.set_cons_succ] at hK ⊢
            unfold opStep
            rw [if_pos (by rfl)]
            go_simp
            exact hK.out _ _ (Below.refl _ _) rfl _ rfl
          case g2_3 =>
            intro wq hbw st  K hK
            simp only [Act.put, List.setIfInBounds_toArray, List.set_cons_zero, List.set_cons_succ] at hK ⊢
            unfold opStep
            rw [if_pos (by rfl)]
            go_simp
            exact hK.out _ _ (Below.refl _ _) rfl _ rfl
          case g2_4 =>
            intro wq hbw st  K hK
            simp only [Act.put, List.setIfInBounds_toArray, List.set_cons_zero, List.set_cons_succ] at hK ⊢
            unfold opStep
            rw [if_pos (by rfl)]
            have c1 := (HCS.out.on hbw).1.view.cell 1
            go_simp
            exact hK.out _ _ (Below.refl _ _) rfl _ rfl
          case g2_5 =>
            intro wq hbw st  K hK
            simp only [Act.put, List.setIfInBounds_toArray, List.set_cons_zero, List.set_cons_succ] at hK ⊢
            unfold opStep
            rw [if_pos (by rfl)]
            have c0 := (HCS.out.on hbw).2.cell
            go_simp
            exact hK.out _ _ (Below.refl _ _) rfl _ rfl
          case g2_6 =>
            intro wq hbw st  K hK
            simp only [Act.put, List.setIfInBounds_toArray, List.set_cons_zero, List.set_cons_succ] at hK ⊢
            unfold opStep
            rw [if_pos (by rfl)]
            go_simp
            exact hK.out _ _ (Below.refl _ _) rfl _ rfl
          case g2_7 =>
            intro wq hbw st  K hK
            simp only [Act.put, List.setIfInBounds_toArray, List.set_cons_zero, List.set_cons_succ] at hK ⊢
            unfold opStep
            rw [if_pos (by rfl)]
            go_simp
            exact hK.out _ _ (Below.refl _ _) rfl _ rfl
          case g2_8 =>
            intro wq hbw st  K hK
            simp only [Act.put, List.setIfInBounds_toArray, List.set_cons_zero, List.set_cons_succ] at hK ⊢
            unfold opStep
            rw [if_pos (by rfl)]
            have c1 := (HCS.out.on hbw).1.view.cell 2
            go_simp
            exact hK.out _ _ (Below.refl _ _) rfl _ rfl
          case g2_9 =>
            intro wq hbw st  K hK
            simp only [Act.put, List.setIfInBounds_toArray, List.set_cons_zero, List.set_cons_succ] at hK ⊢
            unfold opStep
            rw [if_pos (by rfl)]
            go_simp
            exact hK.out _ _ (Below.refl _ _) rfl _ rfl
          case g2_10 =>
            intro wq hbw st  K hK
            simp only [Act.put, List.setIfInBounds_toArray, List.set_cons_zero, List.set_cons_succ] at hK ⊢
            unfold opStep
            rw [if_pos (by rfl)]
            go_simp
            have hpc := pairs2_any gp (rdK h h.length) (upK h h.length) (tornB h) (.slice ra (rdK h h.length).length rk) (.slice uA' (upK h h.length).length uk) wq (HRR.out wq (HCS.out.on hbw)) (HUR.out wq (HCS.out.on hbw)) (fun x hx => by have := (HRB.out x hx).1; omega) (fun x hx => by have := (HUB.out x hx).1; omega) (fun i hi k hk wz hz => clo2_any gp g (.slice ao h.length cap) h i k wz (HCS.out.on (hbw.trans (hz.mono hbw.size))).2 (HVR.out wz (HCS.out.on (hbw.trans (hz.mono hbw.size)))) (HR.out.on (KW.out.trans ((hbw.trans (hz.mono hbw.size)).mono KW.out.size))) HS.out (HRB.out i hi).1 (HUB.out k hk).1 (HRB.out i hi).2)
            refine hpc.mono ?_
            rintro e wz ⟨hor, hbz⟩
            rcases hor with ⟨_, rfl⟩ | ⟨i, k, gq, ho, _⟩
            · try go_simp
              exact hK.out _ _ hbz rfl _ rfl
            · rw [HQ.out] at ho; cases ho
          case g2_11 =>
            intro wq hbw st  K hK
            simp only [Act.put, List.setIfInBounds_toArray, List.set_cons_zero, List.set_cons_succ] at hK ⊢
            unfold opStep
            rw [if_pos (by rfl)]
            go_simp
            exact hK.out _ _ (Below.refl _ _) rfl _ rfl
          case g2_fin =>
            intro wq hbw
            try simp only [FinAll]
            simp only [Act.put, List.setIfInBounds_toArray, List.set_cons_zero, List.set_cons_succ]
            replace HCS := Lib.hid (HCS.out.on hbw)
            replace KW := Lib.hid (KW.out.trans (hbw.mono KW.out.size))
            clear hbw HQ
            obtain ⟨wr, hwr⟩ : ∃ w, w = wq := ⟨_, rfl⟩
            subst hwr
            cases hq : pairF (rdK h h.length) (rdK h h.length) (apartB h) with
            | some pq =>
              obtain ⟨pi, pk⟩ := pq
              replace HRS : Hid (resR h = (4, [(pi : Int), (pk : Int)])) := Lib.hid (HRS.out.trans (by unfold res4 pairR; rw [hq]))
              have HQ := Lib.hid hq
              clear hq
              go_upto_region 19 with fail
              refine region_left [.is (.func (.func 33) #[] #[]), .is (.pointer (some ⟨g + 2, 0, none⟩)), .is (.pointer (some ⟨g + 2, 0, none⟩)), .is (.pointer (some ⟨g + 2, 1, none⟩)), .is (.slice ra (rdK h h.length).length rk), .is (.pointer (some ⟨g + 2, 0, none⟩)), .is (.pointer (some ⟨g + 2, 0, none⟩)), .is (.pointer (some ⟨g + 2, 1, none⟩)), .is (.slice ra (rdK h h.length).length rk), .is (.func (.func 36) #[] #[.pointer (some ⟨gp, 0, none⟩)]), .has (fun x w => ∃ gq, x = .slice (some ⟨gq, 0, none⟩) 2 2 ∧ Blk w gq 3 #[.int .i64 ((pi : Nat) : Int), .int .i64 ((pk : Nat) : Int)]) (fun _ _ _ hb ⟨gq, a, b⟩ => ⟨gq, a, b.on hb⟩), .has (fun x w => ∃ gq, x = .slice (some ⟨gq, 0, none⟩) 2 2 ∧ Blk w gq 3 #[.int .i64 ((pi : Nat) : Int), .int .i64 ((pk : Nat) : Int)]) (fun _ _ _ hb ⟨gq, a, b⟩ => ⟨gq, a, b.on hb⟩)] (by kernel_rfl) rfl (by kernel_rfl) (by kernel_rfl) (.cons ?g3_0 (.cons ?g3_1 (.cons ?g3_2 (.cons ?g3_3 (.cons ?g3_4 (.cons ?g3_5 (.cons ?g3_6 (.cons ?g3_7 (.cons ?g3_8 (.cons ?g3_9 (.cons ?g3_10 (.cons ?g3_11 .nil)))))))))))) ?g3_fin
              case g3_0 =>
                intro wq hbw st  K hK
                simp only [Act.put, List.setIfInBounds_toArray, List.set_cons_zero, List.set_cons_succ] at hK ⊢
                unfold opStep
                rw [if_pos (by rfl)]
                go_simp
                exact hK.out _ _ (Below.refl _ _) rfl _ rfl
              case g3_1 =>
                intro wq hbw st  K hK
                simp only [Act.put, List.setIfInBounds_toArray, List.set_cons_zero, List.set_cons_succ] at hK ⊢
                unfold opStep
                rw [if_pos (by rfl)]
                have c0 := (HCS.out.on hbw).2.cell
                go_simp
                exact hK.out _ _ (Below.refl _ _) rfl _ rfl
              case g3_2 =>
                intro wq hbw st  K hK
                simp only [Act.put, List.setIfInBounds_toArray, List.set_cons_zero, List.set_cons_succ] at hK ⊢
                unfold opStep
                rw [if_pos (by rfl)]
                go_simp
                exact hK.out _ _ (Below.refl _ _) rfl _ rfl
              case g3_3 =>
                intro wq hbw st  K hK
                simp only [Act.put, List.setIfInBounds_toArray, List.set_cons_zero, List.set_cons_succ] at hK ⊢
                unfold opStep
                rw [if_pos (by rfl)]
                go_simp
                exact hK.out _ _ (Below.refl _ _) rfl _ rfl
              case g3_4 =>
                intro wq hbw st  K hK
                simp only [Act.put, List.setIfInBounds_toArray, List.set_cons_zero, List.set_cons_succ] at hK ⊢
                unfold opStep
                rw [if_pos (by rfl)]
                have c1 := (HCS.out.on hbw).1.view.cell 1
                go_simp
                exact hK.out _ _ (Below.refl _ _) rfl _ rfl
              case g3_5 =>
                intro wq hbw st  K hK
                simp only [Act.put, List.setIfInBounds_toArray, List.set_cons_zero, List.set_cons_succ] at hK ⊢
                unfold opStep
                rw [if_pos (by rfl)]
                have c0 := (HCS.out.on hbw).2.cell
                go_simp
                exact hK.out _ _ (Below.refl _ _) rfl _ rfl
              case g3_6 =>
                intro wq hbw st  K hK
                simp only [Act.put, List.setIfInBounds_toArray, List.set_cons_zero, List.set_cons_succ] at hK ⊢
                unfold opStep
                rw [if_pos (by rfl)]
                go_simp
                exact hK.out _ _ (Below.refl _ _) rfl _ rfl
              case g3_7 =>
                intro wq hbw st  K hK
                simp only [Act.put, List.setIfInBounds_toArray, List.set_cons_zero, List.set_cons_succ] at hK ⊢
                unfold opStep
                rw [if_pos (by rfl)]
                go_simp
                exact hK.out _ _ (Below.refl _ _) rfl _ rfl
              case g3_8 =>
                intro wq hbw st  K hK
                simp only [Act.put, List.setIfInBounds_toArray, List.set_cons_zero, List.set_cons_succ] at hK ⊢
                unfold opStep
                rw [if_pos (by rfl)]
                have c1 := (HCS.out.on hbw).1.view.cell 1
                go_simp
                exact hK.out _ _ (Below.refl _ _) rfl _ rfl
              case g3_9 =>
                intro wq hbw st  K hK
                simp only [Act.put, List.setIfInBounds_toArray, List.set_cons_zero, List.set_cons_succ] at hK ⊢
                unfold opStep
                rw [if_pos (by rfl)]
                go_simp
                exact hK.out _ _ (Below.refl _ _) rfl _ rfl
              case g3_10 =>
                intro wq hbw st  K hK
                simp only [Act.put, List.setIfInBounds_toArray, List.set_cons_zero, List.set_cons_succ] at hK ⊢
                unfold opStep
                rw [if_pos (by rfl)]
                go_simp
                have hpc := pairs3_any gp (rdK h h.length) (rdK h h.length) (apartB h) (.slice ra (rdK h h.length).length rk) (.slice ra (rdK h h.length).length rk) wq (HRR.out wq (HCS.out.on hbw)) (HRR.out wq (HCS.out.on hbw)) (fun x hx => by have := (HRB.out x hx).1; omega) (fun x hx => by have := (HRB.out x hx).1; omega) (fun i hi k hk wz hz => clo3_any gp g (.slice ao h.length cap) h i k wz (HCS.out.on (hbw.trans (hz.mono hbw.size))).2 (HVR.out wz (HCS.out.on (hbw.trans (hz.mono hbw.size)))) (HR.out.on (KW.out.trans ((hbw.trans (hz.mono hbw.size)).mono KW.out.size))) HS.out (HRB.out i hi).1 (HRB.out k hk).1 (HRB.out i hi).2 (HRB.out k hk).2)
                refine hpc.mono ?_
                rintro e wz ⟨hor, hbz⟩
                rcases hor with ⟨ho, _⟩ | ⟨i, k, gq, ho, rfl, _, hbq⟩
                · rw [HQ.out] at ho; cases ho
                · rw [HQ.out] at ho
                  injection ho with ho
                  injection ho with ho1 ho2
                  subst ho1 ho2
                  try go_simp
                  exact hK.out _ _ hbz ⟨gq, rfl, hbq⟩ _ rfl
              case g3_11 =>
                intro wq hbw st x10 h10 K hK
                simp only [Act.put, List.setIfInBounds_toArray, List.set_cons_zero, List.set_cons_succ] at hK ⊢
                unfold opStep
                rw [if_pos (by rfl)]
                obtain ⟨gq, rfl, hbq⟩ := h10
                go_simp
                exact hK.out _ _ (Below.refl _ _) ⟨gq, rfl, hbq⟩ _ rfl
              case g3_fin =>
                intro wq hbw
                intro x10 h10 x11 h11
                try simp only [FinAll]
                simp only [Act.put, List.setIfInBounds_toArray, List.set_cons_zero, List.set_cons_succ]
                obtain ⟨gq, rfl, hbq⟩ := h11
                have KWF := Lib.hid (KW.out.trans (hbw.mono KW.out.size))
                have HBL : Hid (Reads vi wq (.slice (some ⟨gq, 0, none⟩) 2 2) [(pi : Int), (pk : Int)]) := Lib.hid (blk_reads (xs := [(pi : Int), (pk : Int)]) hbq rfl (by simp))
                clear hbq hbw
                go_wp2
                refine bodyPost_ret (v := .tuple #[.int .i64 4, .slice (some ⟨gq, 0, none⟩) 2 2]) (by simp [results, Tryz.results13, go_sem]) rfl ?_
                rw [HRS.out]
                exact ⟨_, rfl, HBL.out, KWF.out⟩
            | none =>
              replace HRS : Hid (resR h = res5 h) := Lib.hid (HRS.out.trans (by unfold res4 pairR; rw [hq]))
              have HQ := Lib.hid hq
              clear hq
              go_upto_region 19 with fail
              refine region_left [.is (.func (.func 33) #[] #[]), .is (.pointer (some ⟨g + 2, 0, none⟩)), .is (.pointer (some ⟨g + 2, 0, none⟩)), .is (.pointer (some ⟨g + 2, 1, none⟩)), .is (.slice ra (rdK h h.length).length rk), .is (.pointer (some ⟨g + 2, 0, none⟩)), .is (.pointer (some ⟨g + 2, 0, none⟩)), .is (.pointer (some ⟨g + 2, 1, none⟩)), .is (.slice ra (rdK h h.length).length rk), .is (.func (.func 36) #[] #[.pointer (some ⟨gp, 0, none⟩)]), .is (.slice none 0 0), .is (.slice none 0 0)] (by kernel_rfl) rfl (by kernel_rfl) (by kernel_rfl) (.cons ?g4_0 (.cons ?g4_1 (.cons ?g4_2 (.cons ?g4_3 (.cons ?g4_4 (.cons ?g4_5 (.cons ?g4_6 (.cons ?g4_7 (.cons ?g4_8 (.cons ?g4_9 (.cons ?g4_10 (.cons ?g4_11 .nil)))))))))))) ?g4_fin
              case g4_0 =>
                intro wq hbw st  K hK
                simp only [Act.put, List.setIfInBounds_toArray, List.set_cons_zero, List.set_cons_succ] at hK ⊢
                unfold opStep
                rw [if_pos (by rfl)]
                go_simp
                exact hK.out _ _ (Below.refl _ _) rfl _ rfl
              case g4_1 =>
                intro wq hbw st  K hK
                simp only [Act.put, List.setIfInBounds_toArray, List.set_cons_zero, List.set_cons_succ] at hK ⊢
                unfold opStep
                rw [if_pos (by rfl)]
                have c0 := (HCS.out.on hbw).2.cell
                go_simp
                exact hK.out _ _ (Below.refl _ _) rfl _ rfl
              case g4_2 =>
                intro wq hbw st  K hK
                simp only [Act.put, List.setIfInBounds_toArray, List.set_cons_zero, List.set_cons_succ] at hK ⊢
                unfold opStep
                rw [if_pos (by rfl)]
                go_simp
                exact hK.out _ _ (Below.refl _ _) rfl _ rfl
              case g4_3 =>
                intro wq hbw st  K hK
                simp only [Act.put, List.setIfInBounds_toArray, List.set_cons_zero, List.set_cons_succ] at hK ⊢
                unfold opStep
                rw [if_pos (by rfl)]
                go_simp
                exact hK.out _ _ (Below.refl _ _) rfl _ rfl
              case g4_4 =>
                intro wq hbw st  K hK
                simp only [Act.put, List.setIfInBounds_toArray, List.set_cons_zero, List.set_cons_succ] at hK ⊢
                unfold opStep
                rw [if_pos (by rfl)]
                have c1 := (HCS.out.on hbw).1.view.cell 1
                go_simp
                exact hK.out _ _ (Below.refl _ _) rfl _ rfl
              case g4_5 =>
                intro wq hbw st  K hK
                simp only [Act.put, List.setIfInBounds_toArray, List.set_cons_zero, List.set_cons_succ] at hK ⊢
                unfold opStep
                rw [if_pos (by rfl)]
                have c0 := (HCS.out.on hbw).2.cell
                go_simp
                exact hK.out _ _ (Below.refl _ _) rfl _ rfl
              case g4_6 =>
                intro wq hbw st  K hK
                simp only [Act.put, List.setIfInBounds_toArray, List.set_cons_zero, List.set_cons_succ] at hK ⊢
                unfold opStep
                rw [if_pos (by rfl)]
                go_simp
                exact hK.out _ _ (Below.refl _ _) rfl _ rfl
              case g4_7 =>
                intro wq hbw st  K hK
                simp only [Act.put, List.setIfInBounds_toArray, List.set_cons_zero, List.set_cons_succ] at hK ⊢
                unfold opStep
                rw [if_pos (by rfl)]
                go_simp
                exact hK.out _ _ (Below.refl _ _) rfl _ rfl
              case g4_8 =>
                intro wq hbw st  K hK
                simp only [Act.put, List.setIfInBounds_toArray, List.set_cons_zero, List.set_cons_succ] at hK ⊢
                unfold opStep
                rw [if_pos (by rfl)]
                have c1 := (HCS.out.on hbw).1.view.cell 1
                go_simp
                exact hK.out _ _ (Below.refl _ _) rfl _ rfl
              case g4_9 =>
                intro wq hbw st  K hK
                simp only [Act.put, List.setIfInBounds_toArray, List.set_cons_zero, List.set_cons_succ] at hK ⊢
                unfold opStep
                rw [if_pos (by rfl)]
                go_simp
                exact hK.out _ _ (Below.refl _ _) rfl _ rfl
              case g4_10 =>
                intro wq hbw st  K hK
                simp only [Act.put, List.setIfInBounds_toArray, List.set_cons_zero, List.set_cons_succ] at hK ⊢
                unfold opStep
                rw [if_pos (by rfl)]
                go_simp
                have hpc := pairs3_any gp (rdK h h.length) (rdK h h.length) (apartB h) (.slice ra (rdK h h.length).length rk) (.slice ra (rdK h h.length).length rk) wq (HRR.out wq (HCS.out.on hbw)) (HRR.out wq (HCS.out.on hbw)) (fun x hx => by have := (HRB.out x hx).1; omega) (fun x hx => by have := (HRB.out x hx).1; omega) (fun i hi k hk wz hz => clo3_any gp g (.slice ao h.length cap) h i k wz (HCS.out.on (hbw.trans (hz.mono hbw.size))).2 (HVR.out wz (HCS.out.on (hbw.trans (hz.mono hbw.size)))) (HR.out.on (KW.out.trans ((hbw.trans (hz.mono hbw.size)).mono KW.out.size))) HS.out (HRB.out i hi).1 (HRB.out k hk).1 (HRB.out i hi).2 (HRB.out k hk).2)
                refine hpc.mono ?_
                rintro e wz ⟨hor, hbz⟩
                rcases hor with ⟨_, rfl⟩ | ⟨i, k, gq, ho, _⟩
                · try go_simp
                  exact hK.out _ _ hbz rfl _ rfl
                · rw [HQ.out] at ho; cases ho
              case g4_11 =>
                intro wq hbw st  K hK
                simp only [Act.put, List.setIfInBounds_toArray, List.set_cons_zero, List.set_cons_succ] at hK ⊢
                unfold opStep
                rw [if_pos (by rfl)]
                go_simp
                exact hK.out _ _ (Below.refl _ _) rfl _ rfl
              case g4_fin =>
                intro wq hbw
                try simp only [FinAll]
                simp only [Act.put, List.setIfInBounds_toArray, List.set_cons_zero, List.set_cons_succ]
                replace HCS := Lib.hid (HCS.out.on hbw)
                replace KW := Lib.hid (KW.out.trans (hbw.mono KW.out.size))
                clear hbw HQ
                obtain ⟨wr, hwr⟩ : ∃ w, w = wq := ⟨_, rfl⟩
                subst hwr
                cases hq : pairF (rdK h h.length) (upK h h.length) (earlyB h) with
                | some pq =>
                  obtain ⟨pi, pk⟩ := pq
                  replace HRS : Hid (resR h = (5, [(pi : Int), (pk : Int)])) := Lib.hid (HRS.out.trans (by unfold res5 pairR; rw [hq]))
                  have HQ := Lib.hid hq
                  clear hq
                  go_upto_region 22 with fail
                  refine region_left [.is (.func (.func 33) #[] #[]), .is (.pointer (some ⟨g + 2, 0, none⟩)), .is (.pointer (some ⟨g + 2, 0, none⟩)), .is (.pointer (some ⟨g + 2, 1, none⟩)), .is (.slice ra (rdK h h.length).length rk), .is (.pointer (some ⟨g + 2, 0, none⟩)), .is (.pointer (some ⟨g + 2, 0, none⟩)), .is (.pointer (some ⟨g + 2, 2, none⟩)), .is (.slice uA' (upK h h.length).length uk), .is (.func (.func 38) #[] #[.pointer (some ⟨gp, 0, none⟩)]), .has (fun x w => ∃ gq, x = .slice (some ⟨gq, 0, none⟩) 2 2 ∧ Blk w gq 3 #[.int .i64 ((pi : Nat) : Int), .int .i64 ((pk : Nat) : Int)]) (fun _ _ _ hb ⟨gq, a, b⟩ => ⟨gq, a, b.on hb⟩), .has (fun x w => ∃ gq, x = .slice (some ⟨gq, 0, none⟩) 2 2 ∧ Blk w gq 3 #[.int .i64 ((pi : Nat) : Int), .int .i64 ((pk : Nat) : Int)]) (fun _ _ _ hb ⟨gq, a, b⟩ => ⟨gq, a, b.on hb⟩)] (by kernel_rfl) rfl (by kernel_rfl) (by kernel_rfl) (.cons ?g5_0 (.cons ?g5_1 (.cons ?g5_2 (.cons ?g5_3 (.cons ?g5_4 (.cons ?g5_5 (.cons ?g5_6 (.cons ?g5_7 (.cons ?g5_8 (.cons ?g5_9 (.cons ?g5_10 (.cons ?g5_11 .nil)))))))))))) ?g5_fin
                  case g5_0 =>
                    intro wq hbw st  K hK
                    simp only [Act.put, List.setIfInBounds_toArray, List.set_cons_zero, List.set_cons_succ] at hK ⊢
                    unfold opStep
                    rw [if_pos (by rfl)]
                    go_simp
                    exact hK.out _ _ (Below.refl _ _) rfl _ rfl
                  case g5_1 =>
                    intro wq hbw st  K hK
                    simp only [Act.put, List.setIfInBounds_toArray, List.set_cons_zero, List.set_cons_succ] at hK ⊢
                    unfold opStep
                    rw [if_pos (by rfl)]
                    have c0 := (HCS.out.on hbw).2.cell
                    go_simp
                    exact hK.out _ _ (Below.refl _ _) rfl _ rfl
                  case g5_2 =>
                    intro wq hbw st  K hK
                    simp only [Act.put, List.setIfInBounds_toArray, List.set_cons_zero, List.set_cons_succ] at hK ⊢
                    unfold opStep
                    rw [if_pos (by rfl)]
                    go_simp
                    exact hK.out _ _ (Below.refl _ _) rfl _ rfl
                  case g5_3 =>
                    intro wq hbw st  K hK
                    simp only [Act.put, List.setIfInBounds_toArray, List.set_cons_zero, List.set_cons_succ] at hK ⊢
                    unfold opStep
                    rw [if_pos (by rfl)]
                    go_simp
                    exact hK.out _ _ (Below.refl _ _) rfl _ rfl
                  case g5_4 =>
                    intro wq hbw st  K hK
                    simp only [Act.put, List.setIfInBounds_toArray, List.set_cons_zero, List.set_cons_succ] at hK ⊢
                    unfold opStep
                    rw [if_pos (by rfl)]
                    have c1 := (HCS.out.on hbw).1.view.cell 1
                    go_simp
                    exact hK.out _ _ (Below.refl _ _) rfl _ rfl
                  case g5_5 =>
                    intro wq hbw st  K hK
                    simp only [Act.put, List.setIfInBounds_toArray, List.set_cons_zero, List.set_cons_succ] at hK ⊢
                    unfold opStep
                    rw [if_pos (by rfl)]
                    have c0 := (HCS.out.on hbw).2.cell
                    go_simp
                    exact hK.out _ _ (Below.refl _ _) rfl _ rfl
                  case g5_6 =>
                    intro wq hbw st  K hK
                    simp only [Act.put, List.setIfInBounds_toArray, List.set_cons_zero, List.set_cons_succ] at hK ⊢
                    unfold opStep
                    rw [if_pos (by rfl)]
                    go_simp
                    exact hK.out _ _ (Below.refl _ _) rfl _ rfl
                  case g5_7 =>
                    intro wq hbw st  K hK
                    simp only [Act.put, List.setIfInBounds_toArray, List.set_cons_zero, List.set_cons_succ] at hK ⊢
                    unfold opStep
                    rw [if_pos (by rfl)]
                    go_simp
                    exact hK.out _ _ (Below.refl _ _) rfl _ rfl
                  case g5_8 =>
                    intro wq hbw st  K hK
                    simp only [Act.put, List.setIfInBounds_toArray, List.set_cons_zero, List.set_cons_succ] at hK ⊢
                    unfold opStep
                    rw [if_pos (by rfl)]
                    have c1 := (HCS.out.on hbw).1.view.cell 2
                    go_simp
                    exact hK.out _ _ (Below.refl _ _) rfl _ rfl
                  case g5_9 =>
                    intro wq hbw st  K hK
                    simp only [Act.put, List.setIfInBounds_toArray, List.set_cons_zero, List.set_cons_succ] at hK ⊢
                    unfold opStep
                    rw [if_pos (by rfl)]
                    go_simp
                    exact hK.out _ _ (Below.refl _ _) rfl _ rfl
                  case g5_10 =>
                    intro wq hbw st  K hK
                    simp only [Act.put, List.setIfInBounds_toArray, List.set_cons_zero, List.set_cons_succ] at hK ⊢
                    unfold opStep
                    rw [if_pos (by rfl)]
                    go_simp
                    have hpc := pairs4_any gp (rdK h h.length) (upK h h.length) (earlyB h) (.slice ra (rdK h h.length).length rk) (.slice uA' (upK h h.length).length uk) wq (HRR.out wq (HCS.out.on hbw)) (HUR.out wq (HCS.out.on hbw)) (fun x hx => by have := (HRB.out x hx).1; omega) (fun x hx => by have := (HUB.out x hx).1; omega) (fun i hi k hk wz hz => clo4_any gp g (.slice ao h.length cap) h i k wz (HCS.out.on (hbw.trans (hz.mono hbw.size))).2 (HVR.out wz (HCS.out.on (hbw.trans (hz.mono hbw.size)))) (HR.out.on (KW.out.trans ((hbw.trans (hz.mono hbw.size)).mono KW.out.size))) HS.out (HRB.out i hi).1 (HUB.out k hk).1 (HRB.out i hi).2)
                    refine hpc.mono ?_
                    rintro e wz ⟨hor, hbz⟩
                    rcases hor with ⟨ho, _⟩ | ⟨i, k, gq, ho, rfl, _, hbq⟩
                    · rw [HQ.out] at ho; cases ho
                    · rw [HQ.out] at ho
                      injection ho with ho
                      injection ho with ho1 ho2
                      subst ho1 ho2
                      try go_simp
                      exact hK.out _ _ hbz ⟨gq, rfl, hbq⟩ _ rfl
                  case g5_11 =>
                    intro wq hbw st x10 h10 K hK
                    simp only [Act.put, List.setIfInBounds_toArray, List.set_cons_zero, List.set_cons_succ] at hK ⊢
                    unfold opStep
                    rw [if_pos (by rfl)]
                    obtain ⟨gq, rfl, hbq⟩ := h10
                    go_simp
                    exact hK.out _ _ (Below.refl _ _) ⟨gq, rfl, hbq⟩ _ rfl
                  case g5_fin =>
                    intro wq hbw
                    intro x10 h10 x11 h11
                    try simp only [FinAll]
                    simp only [Act.put, List.setIfInBounds_toArray, List.set_cons_zero, List.set_cons_succ]
                    obtain ⟨gq, rfl, hbq⟩ := h11
                    have KWF := Lib.hid (KW.out.trans (hbw.mono KW.out.size))
                    have HBL : Hid (Reads vi wq (.slice (some ⟨gq, 0, none⟩) 2 2) [(pi : Int), (pk : Int)]) := Lib.hid (blk_reads (xs := [(pi : Int), (pk : Int)]) hbq rfl (by simp))
                    clear hbq hbw
                    go_wp2
                    refine bodyPost_ret (v := .tuple #[.int .i64 5, .slice (some ⟨gq, 0, none⟩) 2 2]) (by simp [results, Tryz.results13, go_sem]) rfl ?_
                    rw [HRS.out]
                    exact ⟨_, rfl, HBL.out, KWF.out⟩
                | none =>
                  replace HRS : Hid (resR h = res6 h) := Lib.hid (HRS.out.trans (by unfold res5 pairR; rw [hq]))
                  have HQ := Lib.hid hq
                  clear hq
                  go_upto_region 22 with fail
                  refine region_left [.is (.func (.func 33) #[] #[]), .is (.pointer (some ⟨g + 2, 0, none⟩)), .is (.pointer (some ⟨g + 2, 0, none⟩)), .is (.pointer (some ⟨g + 2, 1, none⟩)), .is (.slice ra (rdK h h.length).length rk), .is (.pointer (some ⟨g + 2, 0, none⟩)), .is (.pointer (some ⟨g + 2, 0, none⟩)), .is (.pointer (some ⟨g + 2, 2, none⟩)), .is (.slice uA' (upK h h.length).length uk), .is (.func (.func 38) #[] #[.pointer (some ⟨gp, 0, none⟩)]), .is (.slice none 0 0), .is (.slice none 0 0)] (by kernel_rfl) rfl (by kernel_rfl) (by kernel_rfl) (.cons ?g6_0 (.cons ?g6_1 (.cons ?g6_2 (.cons ?g6_3 (.cons ?g6_4 (.cons ?g6_5 (.cons ?g6_6 (.cons ?g6_7 (.cons ?g6_8 (.cons ?g6_9 (.cons ?g6_10 (.cons ?g6_11 .nil)))))))))))) ?g6_fin
                  case g6_0 =>
                    intro wq hbw st  K hK
                    simp only [Act.put, List.setIfInBounds_toArray, List.set_cons_zero, List.set_cons_succ] at hK ⊢
                    unfold opStep
                    rw [if_pos (by rfl)]
                    go_simp
                    exact hK.out _ _ (Below.refl _ _) rfl _ rfl
                  case g6_1 =>
                    intro wq hbw st  K hK
                    simp only [Act.put, List.setIfInBounds_toArray, List.set_cons_zero, List.set_cons_succ] at hK ⊢
                    unfold opStep
                    rw [if_pos (by rfl)]
                    have c0 := (HCS.out.on hbw).2.cell
                    go_simp
                    exact hK.out _ _ (Below.refl _ _) rfl _ rfl
                  case g6_2 =>
                    intro wq hbw st  K hK
                    simp only [Act.put, List.setIfInBounds_toArray, List.set_cons_zero, List.set_cons_succ] at hK ⊢
                    unfold opStep
                    rw [if_pos (by rfl)]
                    go_simp
                    exact hK.out _ _ (Below.refl _ _) rfl _ rfl
                  case g6_3 =>
                    intro wq hbw st  K hK
                    simp only [Act.put, List.setIfInBounds_toArray, List.set_cons_zero, List.set_cons_succ] at hK ⊢
                    unfold opStep
                    rw [if_pos (by rfl)]
                    go_simp
                    exact hK.out _ _ (Below.refl _ _) rfl _ rfl
                  case g6_4 =>
                    intro wq hbw st  K hK
                    simp only [Act.put, List.setIfInBounds_toArray, List.set_cons_zero, List.set_cons_succ] at hK ⊢
                    unfold opStep
                    rw [if_pos (by rfl)]
                    have c1 := (HCS.out.on hbw).1.view.cell 1
                    go_simp
                    exact hK.out _ _ (Below.refl _ _) rfl _ rfl
                  case g6_5 =>
                    intro wq hbw st  K hK
                    simp only [Act.put, List.setIfInBounds_toArray, List.set_cons_zero, List.set_cons_succ] at hK ⊢
                    unfold opStep
                    rw [if_pos (by rfl)]
                    have c0 := (HCS.out.on hbw).2.cell
                    go_simp
                    exact hK.out _ _ (Below.refl _ _) rfl _ rfl
                  case g6_6 =>
                    intro wq hbw st  K hK
                    simp only [Act.put, List.setIfInBounds_toArray, List.set_cons_zero, List.set_cons_succ] at hK ⊢
                    unfold opStep
                    rw [if_pos (by rfl)]
                    go_simp
                    exact hK.out _ _ (Below.refl _ _) rfl _ rfl
                  case g6_7 =>
                    intro wq hbw st  K hK
                    simp only [Act.put, List.setIfInBounds_toArray, List.set_cons_zero, List.set_cons_succ] at hK ⊢
                    unfold opStep
                    rw [if_pos (by rfl)]
                    go_simp
                    exact hK.out _ _ (Below.refl _ _) rfl _ rfl
                  case g6_8 =>
                    intro wq hbw st  K hK
                    simp only [Act.put, List.setIfInBounds_toArray, List.set_cons_zero, List.set_cons_succ] at hK ⊢
                    unfold opStep
                    rw [if_pos (by rfl)]
                    have c1 := (HCS.out.on hbw).1.view.cell 2
                    go_simp
                    exact hK.out _ _ (Below.refl _ _) rfl _ rfl
                  case g6_9 =>
                    intro wq hbw st  K hK
                    simp only [Act.put, List.setIfInBounds_toArray, List.set_cons_zero, List.set_cons_succ] at hK ⊢
                    unfold opStep
                    rw [if_pos (by rfl)]
                    go_simp
                    exact hK.out _ _ (Below.refl _ _) rfl _ rfl
                  case g6_10 =>
                    intro wq hbw st  K hK
                    simp only [Act.put, List.setIfInBounds_toArray, List.set_cons_zero, List.set_cons_succ] at hK ⊢
                    unfold opStep
                    rw [if_pos (by rfl)]
                    go_simp
                    have hpc := pairs4_any gp (rdK h h.length) (upK h h.length) (earlyB h) (.slice ra (rdK h h.length).length rk) (.slice uA' (upK h h.length).length uk) wq (HRR.out wq (HCS.out.on hbw)) (HUR.out wq (HCS.out.on hbw)) (fun x hx => by have := (HRB.out x hx).1; omega) (fun x hx => by have := (HUB.out x hx).1; omega) (fun i hi k hk wz hz => clo4_any gp g (.slice ao h.length cap) h i k wz (HCS.out.on (hbw.trans (hz.mono hbw.size))).2 (HVR.out wz (HCS.out.on (hbw.trans (hz.mono hbw.size)))) (HR.out.on (KW.out.trans ((hbw.trans (hz.mono hbw.size)).mono KW.out.size))) HS.out (HRB.out i hi).1 (HUB.out k hk).1 (HRB.out i hi).2)
                    refine hpc.mono ?_
                    rintro e wz ⟨hor, hbz⟩
                    rcases hor with ⟨_, rfl⟩ | ⟨i, k, gq, ho, _⟩
                    · try go_simp
                      exact hK.out _ _ hbz rfl _ rfl
                    · rw [HQ.out] at ho; cases ho
                  case g6_11 =>
                    intro wq hbw st  K hK
                    simp only [Act.put, List.setIfInBounds_toArray, List.set_cons_zero, List.set_cons_succ] at hK ⊢
                    unfold opStep
                    rw [if_pos (by rfl)]
                    go_simp
                    exact hK.out _ _ (Below.refl _ _) rfl _ rfl
                  case g6_fin =>
                    intro wq hbw
                    try simp only [FinAll]
                    simp only [Act.put, List.setIfInBounds_toArray, List.set_cons_zero, List.set_cons_succ]
                    replace HCS := Lib.hid (HCS.out.on hbw)
                    replace KW := Lib.hid (KW.out.trans (hbw.mono KW.out.size))
                    clear hbw HQ
                    obtain ⟨wr, hwr⟩ : ∃ w, w = wq := ⟨_, rfl⟩
                    subst hwr
                    cases hq : pairF (upK h h.length) (rdK h h.length) (lateB h) with
                    | some pq =>
                      obtain ⟨pi, pk⟩ := pq
                      replace HRS : Hid (resR h = (6, [(pi : Int), (pk : Int)])) := Lib.hid (HRS.out.trans (by unfold res6 pairR; rw [hq]))
                      have HQ := Lib.hid hq
                      clear hq
                      go_upto_region 25 with fail
                      refine region_left [.is (.func (.func 33) #[] #[]), .is (.pointer (some ⟨g + 2, 0, none⟩)), .is (.pointer (some ⟨g + 2, 0, none⟩)), .is (.pointer (some ⟨g + 2, 2, none⟩)), .is (.slice uA' (upK h h.length).length uk), .is (.pointer (some ⟨g + 2, 0, none⟩)), .is (.pointer (some ⟨g + 2, 0, none⟩)), .is (.pointer (some ⟨g + 2, 1, none⟩)), .is (.slice ra (rdK h h.length).length rk), .is (.func (.func 40) #[] #[.pointer (some ⟨gp, 0, none⟩)]), .has (fun x w => ∃ gq, x = .slice (some ⟨gq, 0, none⟩) 2 2 ∧ Blk w gq 3 #[.int .i64 ((pi : Nat) : Int), .int .i64 ((pk : Nat) : Int)]) (fun _ _ _ hb ⟨gq, a, b⟩ => ⟨gq, a, b.on hb⟩), .has (fun x w => ∃ gq, x = .slice (some ⟨gq, 0, none⟩) 2 2 ∧ Blk w gq 3 #[.int .i64 ((pi : Nat) : Int), .int .i64 ((pk : Nat) : Int)]) (fun _ _ _ hb ⟨gq, a, b⟩ => ⟨gq, a, b.on hb⟩)] (by kernel_rfl) rfl (by kernel_rfl) (by kernel_rfl) (.cons ?g7_0 (.cons ?g7_1 (.cons ?g7_2 (.cons ?g7_3 (.cons ?g7_4 (.cons ?g7_5 (.cons ?g7_6 (.cons ?g7_7 (.cons ?g7_8 (.cons ?g7_9 (.cons ?g7_10 (.cons ?g7_11 .nil)))))))))))) ?g7_fin
                      case g7_0 =>
                        intro wq hbw st  K hK
                        simp only [Act.put, List.setIfInBounds_toArray, List.set_cons_zero, List.set_cons_succ] at hK ⊢
                        unfold opStep
                        rw [if_pos (by rfl)]
                        go_simp
                        exact hK.out _ _ (Below.refl _ _) rfl _ rfl
                      case g7_1 =>
                        intro wq hbw st  K hK
                        simp only [Act.put, List.setIfInBounds_toArray, List.set_cons_zero, List.set_cons_succ] at hK ⊢
                        unfold opStep
                        rw [if_pos (by rfl)]
                        have c0 := (HCS.out.on hbw).2.cell
                        go_simp
                        exact hK.out _ _ (Below.refl _ _) rfl _ rfl
                      case g7_2 =>
                        intro wq hbw st  K hK
                        simp only [Act.put, List.setIfInBounds_toArray, List.set_cons_zero, List.set_cons_succ] at hK ⊢
                        unfold opStep
                        rw [if_pos (by rfl)]
                        go_simp
                        exact hK.out _ _ (Below.refl _ _) rfl _ rfl
                      case g7_3 =>
                        intro wq hbw st  K hK
                        simp only [Act.put, List.setIfInBounds_toArray, List.set_cons_zero, List.set_cons_succ] at hK ⊢
                        unfold opStep
                        rw [if_pos (by rfl)]
                        go_simp
                        exact hK.out _ _ (Below.refl _ _) rfl _ rfl
                      case g7_4 =>
                        intro wq hbw st  K hK
                        simp only [Act.put, List.setIfInBounds_toArray, List.set_cons_zero, List.set_cons_succ] at hK ⊢
                        unfold opStep
                        rw [if_pos (by rfl)]
                        have c1 := (HCS.out.on hbw).1.view.cell 2
                        go_simp
                        exact hK.out _ _ (Below.refl _ _) rfl _ rfl
                      case g7_5 =>
                        intro wq hbw st  K hK
                        simp only [Act.put, List.setIfInBounds_toArray, List.set_cons_zero, List.set_cons_succ] at hK ⊢
                        unfold opStep
                        rw [if_pos (by rfl)]
                        have c0 := (HCS.out.on hbw).2.cell
                        go_simp
                        exact hK.out _ _ (Below.refl _ _) rfl _ rfl
                      case g7_6 =>
                        intro wq hbw st  K hK
                        simp only [Act.put, List.setIfInBounds_toArray, List.set_cons_zero, List.set_cons_succ] at hK ⊢
                        unfold opStep
                        rw [if_pos (by rfl)]
                        go_simp
                        exact hK.out _ _ (Below.refl _ _) rfl _ rfl
                      case g7_7 =>
                        intro wq hbw st  K hK
                        simp only [Act.put, List.setIfInBounds_toArray, List.set_cons_zero, List.set_cons_succ] at hK ⊢
                        unfold opStep
                        rw [if_pos (by rfl)]
                        go_simp
                        exact hK.out _ _ (Below.refl _ _) rfl _ rfl
                      case g7_8 =>
                        intro wq hbw st  K hK
                        simp only [Act.put, List.setIfInBounds_toArray, List.set_cons_zero, List.set_cons_succ] at hK ⊢
                        unfold opStep
                        rw [if_pos (by rfl)]
                        have c1 := (HCS.out.on hbw).1.view.cell 1
                        go_simp
                        exact hK.out _ _ (Below.refl _ _) rfl _ rfl
                      case g7_9 =>
                        intro wq hbw st  K hK
                        simp only [Act.put, List.setIfInBounds_toArray, List.set_cons_zero, List.set_cons_succ] at hK ⊢
                        unfold opStep
                        rw [if_pos (by rfl)]
                        go_simp
                        exact hK.out _ _ (Below.refl _ _) rfl _ rfl
                      case g7_10 =>
                        intro wq hbw st  K hK
                        simp only [Act.put, List.setIfInBounds_toArray, List.set_cons_zero, List.set_cons_succ] at hK ⊢
                        unfold opStep
                        rw [if_pos (by rfl)]
                        go_simp
                        have hpc := pairs5_any gp (upK h h.length) (rdK h h.length) (lateB h) (.slice uA' (upK h h.length).length uk) (.slice ra (rdK h h.length).length rk) wq (HUR.out wq (HCS.out.on hbw)) (HRR.out wq (HCS.out.on hbw)) (fun x hx => by have := (HUB.out x hx).1; omega) (fun x hx => by have := (HRB.out x hx).1; omega) (fun i hi k hk wz hz => clo5_any gp g (.slice ao h.length cap) h i k wz (HCS.out.on (hbw.trans (hz.mono hbw.size))).2 (HVR.out wz (HCS.out.on (hbw.trans (hz.mono hbw.size)))) (HR.out.on (KW.out.trans ((hbw.trans (hz.mono hbw.size)).mono KW.out.size))) HS.out (HUB.out i hi).1 (HRB.out k hk).1 (HRB.out k hk).2)
                        refine hpc.mono ?_
                        rintro e wz ⟨hor, hbz⟩
                        rcases hor with ⟨ho, _⟩ | ⟨i, k, gq, ho, rfl, _, hbq⟩
                        · rw [HQ.out] at ho; cases ho
                        · rw [HQ.out] at ho
                          injection ho with ho
                          injection ho with ho1 ho2
                          subst ho1 ho2
                          try go_simp
                          exact hK.out _ _ hbz ⟨gq, rfl, hbq⟩ _ rfl
                      case g7_11 =>
                        intro wq hbw st x10 h10 K hK
                        simp only [Act.put, List.setIfInBounds_toArray, List.set_cons_zero, List.set_cons_succ] at hK ⊢
                        unfold opStep
                        rw [if_pos (by rfl)]
                        obtain ⟨gq, rfl, hbq⟩ := h10
                        go_simp
                        exact hK.out _ _ (Below.refl _ _) ⟨gq, rfl, hbq⟩ _ rfl
                      case g7_fin =>
                        intro wq hbw
                        intro x10 h10 x11 h11
                        try simp only [FinAll]
                        simp only [Act.put, List.setIfInBounds_toArray, List.set_cons_zero, List.set_cons_succ]
                        obtain ⟨gq, rfl, hbq⟩ := h11
                        have KWF := Lib.hid (KW.out.trans (hbw.mono KW.out.size))
                        have HBL : Hid (Reads vi wq (.slice (some ⟨gq, 0, none⟩) 2 2) [(pi : Int), (pk : Int)]) := Lib.hid (blk_reads (xs := [(pi : Int), (pk : Int)]) hbq rfl (by simp))
                        clear hbq hbw
                        go_wp2
                        refine bodyPost_ret (v := .tuple #[.int .i64 6, .slice (some ⟨gq, 0, none⟩) 2 2]) (by simp [results, Tryz.results13, go_sem]) rfl ?_
                        rw [HRS.out]
                        exact ⟨_, rfl, HBL.out, KWF.out⟩
                    | none =>
                      replace HRS : Hid (resR h = res7 h) := Lib.hid (HRS.out.trans (by unfold res6 pairR; rw [hq]))
                      have HQ := Lib.hid hq
                      clear hq
                      go_upto_region 25 with fail
                      refine region_left [.is (.func (.func 33) #[] #[]), .is (.pointer (some ⟨g + 2, 0, none⟩)), .is (.pointer (some ⟨g + 2, 0, none⟩)), .is (.pointer (some ⟨g + 2, 2, none⟩)), .is (.slice uA' (upK h h.length).length uk), .is (.pointer (some ⟨g + 2, 0, none⟩)), .is (.pointer (some ⟨g + 2, 0, none⟩)), .is (.pointer (some ⟨g + 2, 1, none⟩)), .is (.slice ra (rdK h h.length).length rk), .is (.func (.func 40) #[] #[.pointer (some ⟨gp, 0, none⟩)]), .is (.slice none 0 0), .is (.slice none 0 0)] (by kernel_rfl) rfl (by kernel_rfl) (by kernel_rfl) (.cons ?g8_0 (.cons ?g8_1 (.cons ?g8_2 (.cons ?g8_3 (.cons ?g8_4 (.cons ?g8_5 (.cons ?g8_6 (.cons ?g8_7 (.cons ?g8_8 (.cons ?g8_9 (.cons ?g8_10 (.cons ?g8_11 .nil)))))))))))) ?g8_fin
                      case g8_0 =>
                        intro wq hbw st  K hK
                        simp only [Act.put, List.setIfInBounds_toArray, List.set_cons_zero, List.set_cons_succ] at hK ⊢
                        unfold opStep
                        rw [if_pos (by rfl)]
                        go_simp
                        exact hK.out _ _ (Below.refl _ _) rfl _ rfl
                      case g8_1 =>
                        intro wq hbw st  K hK
                        simp only [Act.put, List.setIfInBounds_toArray, List.set_cons_zero, List.set_cons_succ] at hK ⊢
                        unfold opStep
                        rw [if_pos (by rfl)]
                        have c0 := (HCS.out.on hbw).2.cell
                        go_simp
                        exact hK.out _ _ (Below.refl _ _) rfl _ rfl
                      case g8_2 =>
                        intro wq hbw st  K hK
                        simp only [Act.put, List.setIfInBounds_toArray, List.set_cons_zero, List.set_cons_succ] at hK ⊢
                        unfold opStep
                        rw [if_pos (by rfl)]
                        go_simp
                        exact hK.out _ _ (Below.refl _ _) rfl _ rfl
                      case g8_3 =>
                        intro wq hbw st  K hK
                        simp only [Act.put, List.setIfInBounds_toArray, List.set_cons_zero, List.set_cons_succ] at hK ⊢
                        unfold opStep
                        rw [if_pos (by rfl)]
                        go_simp
                        exact hK.out _ _ (Below.refl _ _) rfl _ rfl
                      case g8_4 =>
                        intro wq hbw st  K hK
                        simp only [Act.put, List.setIfInBounds_toArray, List.set_cons_zero, List.set_cons_succ] at hK ⊢
                        unfold opStep
                        rw [if_pos (by rfl)]
                        have c1 := (HCS.out.on hbw).1.view.cell 2
                        go_simp
                        exact hK.out _ _ (Below.refl _ _) rfl _ rfl
                      case g8_5 =>
                        intro wq hbw st  K hK
                        simp only [Act.put, List.setIfInBounds_toArray, List.set_cons_zero, List.set_cons_succ] at hK ⊢
                        unfold opStep
                        rw [if_pos (by rfl)]
                        have c0 := (HCS.out.on hbw).2.cell
                        go_simp
                        exact hK.out _ _ (Below.refl _ _) rfl _ rfl
                      case g8_6 =>
                        intro wq hbw st  K hK
                        simp only [Act.put, List.setIfInBounds_toArray, List.set_cons_zero, List.set_cons_succ] at hK ⊢
                        unfold opStep
                        rw [if_pos (by rfl)]
                        go_simp
                        exact hK.out _ _ (Below.refl _ _) rfl _ rfl
                      case g8_7 =>
                        intro wq hbw st  K hK
                        simp only [Act.put, List.setIfInBounds_toArray, List.set_cons_zero, List.set_cons_succ] at hK ⊢
                        unfold opStep
                        rw [if_pos (by rfl)]
                        go_simp
                        exact hK.out _ _ (Below.refl _ _) rfl _ rfl
                      case g8_8 =>
                        intro wq hbw st  K hK
                        simp only [Act.put, List.setIfInBounds_toArray, List.set_cons_zero, List.set_cons_succ] at hK ⊢
                        unfold opStep
                        rw [if_pos (by rfl)]
                        have c1 := (HCS.out.on hbw).1.view.cell 1
                        go_simp
                        exact hK.out _ _ (Below.refl _ _) rfl _ rfl
                      case g8_9 =>
                        intro wq hbw st  K hK
                        simp only [Act.put, List.setIfInBounds_toArray, List.set_cons_zero, List.set_cons_succ] at hK ⊢
                        unfold opStep
                        rw [if_pos (by rfl)]
                        go_simp
                        exact hK.out _ _ (Below.refl _ _) rfl _ rfl
                      case g8_10 =>
                        intro wq hbw st  K hK
                        simp only [Act.put, List.setIfInBounds_toArray, List.set_cons_zero, List.set_cons_succ] at hK ⊢
                        unfold opStep
                        rw [if_pos (by rfl)]
                        go_simp
                        have hpc := pairs5_any gp (upK h h.length) (rdK h h.length) (lateB h) (.slice uA' (upK h h.length).length uk) (.slice ra (rdK h h.length).length rk) wq (HUR.out wq (HCS.out.on hbw)) (HRR.out wq (HCS.out.on hbw)) (fun x hx => by have := (HUB.out x hx).1; omega) (fun x hx => by have := (HRB.out x hx).1; omega) (fun i hi k hk wz hz => clo5_any gp g (.slice ao h.length cap) h i k wz (HCS.out.on (hbw.trans (hz.mono hbw.size))).2 (HVR.out wz (HCS.out.on (hbw.trans (hz.mono hbw.size)))) (HR.out.on (KW.out.trans ((hbw.trans (hz.mono hbw.size)).mono KW.out.size))) HS.out (HUB.out i hi).1 (HRB.out k hk).1 (HRB.out k hk).2)
                        refine hpc.mono ?_
                        rintro e wz ⟨hor, hbz⟩
                        rcases hor with ⟨_, rfl⟩ | ⟨i, k, gq, ho, _⟩
                        · try go_simp
                          exact hK.out _ _ hbz rfl _ rfl
                        · rw [HQ.out] at ho; cases ho
                      case g8_11 =>
                        intro wq hbw st  K hK
                        simp only [Act.put, List.setIfInBounds_toArray, List.set_cons_zero, List.set_cons_succ] at hK ⊢
                        unfold opStep
                        rw [if_pos (by rfl)]
                        go_simp
                        exact hK.out _ _ (Below.refl _ _) rfl _ rfl
                      case g8_fin =>
                        intro wq hbw
                        try simp only [FinAll]
                        simp only [Act.put, List.setIfInBounds_toArray, List.set_cons_zero, List.set_cons_succ]
                        replace HCS := Lib.hid (HCS.out.on hbw)
                        replace KW := Lib.hid (KW.out.trans (hbw.mono KW.out.size))
                        clear hbw HQ
                        obtain ⟨wr, hwr⟩ : ∃ w, w = wq := ⟨_, rfl⟩
                        subst hwr
                        cases hq : pairF (rdK h h.length) (rdK h h.length) (backB h) with
                        | some pq =>
                          obtain ⟨pi, pk⟩ := pq
                          replace HRS : Hid (resR h = (7, [(pi : Int), (pk : Int)])) := Lib.hid (HRS.out.trans (by unfold res7 pairR; rw [hq]))
                          have HQ := Lib.hid hq
                          clear hq
                          go_upto_region 28 with fail
                          refine region_left [.is (.func (.func 33) #[] #[]), .is (.pointer (some ⟨g + 2, 0, none⟩)), .is (.pointer (some ⟨g + 2, 0, none⟩)), .is (.pointer (some ⟨g + 2, 1, none⟩)), .is (.slice ra (rdK h h.length).length rk), .is (.pointer (some ⟨g + 2, 0, none⟩)), .is (.pointer (some ⟨g + 2, 0, none⟩)), .is (.pointer (some ⟨g + 2, 1, none⟩)), .is (.slice ra (rdK h h.length).length rk), .is (.func (.func 41) #[] #[.pointer (some ⟨gp, 0, none⟩)]), .has (fun x w => ∃ gq, x = .slice (some ⟨gq, 0, none⟩) 2 2 ∧ Blk w gq 3 #[.int .i64 ((pi : Nat) : Int), .int .i64 ((pk : Nat) : Int)]) (fun _ _ _ hb ⟨gq, a, b⟩ => ⟨gq, a, b.on hb⟩), .has (fun x w => ∃ gq, x = .slice (some ⟨gq, 0, none⟩) 2 2 ∧ Blk w gq 3 #[.int .i64 ((pi : Nat) : Int), .int .i64 ((pk : Nat) : Int)]) (fun _ _ _ hb ⟨gq, a, b⟩ => ⟨gq, a, b.on hb⟩)] (by kernel_rfl) rfl (by kernel_rfl) (by kernel_rfl) (.cons ?g9_0 (.cons ?g9_1 (.cons ?g9_2 (.cons ?g9_3 (.cons ?g9_4 (.cons ?g9_5 (.cons ?g9_6 (.cons ?g9_7 (.cons ?g9_8 (.cons ?g9_9 (.cons ?g9_10 (.cons ?g9_11 .nil)))))))))))) ?g9_fin
                          case g9_0 =>
                            intro wq hbw st  K hK
                            simp only [Act.put, List.setIfInBounds_toArray, List.set_cons_zero, List.set_cons_succ] at hK ⊢
                            unfold opStep
                            rw [if_pos (by rfl)]
                            go_simp
                            exact hK.out _ _ (Below.refl _ _) rfl _ rfl
                          case g9_1 =>
                            intro wq hbw st  K hK
                            simp only [Act.put, List.setIfInBounds_toArray, List.set_cons_zero, List.set_cons_succ] at hK ⊢
                            unfold opStep
                            rw [if_pos (by rfl)]
                            have c0 := (HCS.out.on hbw).2.cell
                            go_simp
                            exact hK.out _ _ (Below.refl _ _) rfl _ rfl
                          case g9_2 =>
                            intro wq hbw st  K hK
                            simp only [Act.put, List.setIfInBounds_toArray, List.set_cons_zero, List.set_cons_succ] at hK ⊢
                            unfold opStep
                            rw [if_pos (by rfl)]
                            go_simp
                            exact hK.out _ _ (Below.refl _ _) rfl _ rfl
                          case g9_3 =>
                            intro wq hbw st  K hK
                            simp only [Act.put, List.setIfInBounds_toArray, List.set_cons_zero, List.set_cons_succ] at hK ⊢
                            unfold opStep
                            rw [if_pos (by rfl)]
                            go_simp
                            exact hK.out _ _ (Below.refl _ _) rfl _ rfl
                          case g9_4 =>
                            intro wq hbw st  K hK
                            simp only [Act.put, List.setIfInBounds_toArray, List.set_cons_zero, List.set_cons_succ] at hK ⊢
                            unfold opStep
                            rw [if_pos (by rfl)]
                            have c1 := (HCS.out.on hbw).1.view.cell 1
                            go_simp
                            exact hK.out _ _ (Below.refl _ _) rfl _ rfl
                          case g9_5 =>
                            intro wq hbw st  K hK
                            simp only [Act.put, List.setIfInBounds_toArray, List.set_cons_zero, List.set_cons_succ] at hK ⊢
                            unfold opStep
                            rw [if_pos (by rfl)]
                            have c0 := (HCS.out.on hbw).2.cell
                            go_simp
                            exact hK.out _ _ (Below.refl _ _) rfl _ rfl
                          case g9_6 =>
                            intro wq hbw st  K hK
                            simp only [Act.put, List.setIfInBounds_toArray, List.set_cons_zero, List.set_cons_succ] at hK ⊢
                            unfold opStep
                            rw [if_pos (by rfl)]
                            go_simp
                            exact hK.out _ _ (Below.refl _ _) rfl _ rfl
                          case g9_7 =>
                            intro wq hbw st  K hK
                            simp only [Act.put, List.setIfInBounds_toArray, List.set_cons_zero, List.set_cons_succ] at hK ⊢
                            unfold opStep
                            rw [if_pos (by rfl)]
                            go_simp
                            exact hK.out _ _ (Below.refl _ _) rfl _ rfl
                          case g9_8 =>
                            intro wq hbw st  K hK
                            simp only [Act.put, List.setIfInBounds_toArray, List.set_cons_zero, List.set_cons_succ] at hK ⊢
                            unfold opStep
                            rw [if_pos (by rfl)]
                            have c1 := (HCS.out.on hbw).1.view.cell 1
                            go_simp
                            exact hK.out _ _ (Below.refl _ _) rfl _ rfl
                          case g9_9 =>
                            intro wq hbw st  K hK
                            simp only [Act.put, List.setIfInBounds_toArray, List.set_cons_zero, List.set_cons_succ] at hK ⊢
                            unfold opStep
                            rw [if_pos (by rfl)]
                            go_simp
                            exact hK.out _ _ (Below.refl _ _) rfl _ rfl
                          case g9_10 =>
                            intro wq hbw st  K hK
                            simp only [Act.put, List.setIfInBounds_toArray, List.set_cons_zero, List.set_cons_succ] at hK ⊢
                            unfold opStep
                            rw [if_pos (by rfl)]
                            go_simp
                            have hpc := pairs6_any gp (rdK h h.length) (rdK h h.length) (backB h) (.slice ra (rdK h h.length).length rk) (.slice ra (rdK h h.length).length rk) wq (HRR.out wq (HCS.out.on hbw)) (HRR.out wq (HCS.out.on hbw)) (fun x hx => by have := (HRB.out x hx).1; omega) (fun x hx => by have := (HRB.out x hx).1; omega) (fun i hi k hk wz hz => clo6_any gp g (.slice ao h.length cap) h i k wz (HCS.out.on (hbw.trans (hz.mono hbw.size))).2 (HVR.out wz (HCS.out.on (hbw.trans (hz.mono hbw.size)))) (HR.out.on (KW.out.trans ((hbw.trans (hz.mono hbw.size)).mono KW.out.size))) HS.out (HRB.out i hi).1 (HRB.out k hk).1 (HRB.out i hi).2 (HRB.out k hk).2)
                            refine hpc.mono ?_
                            rintro e wz ⟨hor, hbz⟩
                            rcases hor with ⟨ho, _⟩ | ⟨i, k, gq, ho, rfl, _, hbq⟩
                            · rw [HQ.out] at ho; cases ho
                            · rw [HQ.out] at ho
                              injection ho with ho
                              injection ho with ho1 ho2
                              subst ho1 ho2
                              try go_simp
                              exact hK.out _ _ hbz ⟨gq, rfl, hbq⟩ _ rfl
                          case g9_11 =>
                            intro wq hbw st x10 h10 K hK
                            simp only [Act.put, List.setIfInBounds_toArray, List.set_cons_zero, List.set_cons_succ] at hK ⊢
                            unfold opStep
                            rw [if_pos (by rfl)]
                            obtain ⟨gq, rfl, hbq⟩ := h10
                            go_simp
                            exact hK.out _ _ (Below.refl _ _) ⟨gq, rfl, hbq⟩ _ rfl
                          case g9_fin =>
                            intro wq hbw
                            intro x10 h10 x11 h11
                            try simp only [FinAll]
                            simp only [Act.put, List.setIfInBounds_toArray, List.set_cons_zero, List.set_cons_succ]
                            obtain ⟨gq, rfl, hbq⟩ := h11
                            have KWF := Lib.hid (KW.out.trans (hbw.mono KW.out.size))
                            have HBL : Hid (Reads vi wq (.slice (some ⟨gq, 0, none⟩) 2 2) [(pi : Int), (pk : Int)]) := Lib.hid (blk_reads (xs := [(pi : Int), (pk : Int)]) hbq rfl (by simp))
                            clear hbq hbw
                            go_wp2
                            refine bodyPost_ret (v := .tuple #[.int .i64 7, .slice (some ⟨gq, 0, none⟩) 2 2]) (by simp [results, Tryz.results13, go_sem]) rfl ?_
                            rw [HRS.out]
                            exact ⟨_, rfl, HBL.out, KWF.out⟩
                        | none =>
                          replace HRS : Hid (resR h = res8 h) := Lib.hid (HRS.out.trans (by unfold res7 pairR; rw [hq]))
                          have HQ := Lib.hid hq
                          clear hq
                          go_upto_region 28 with fail
                          refine region_left [.is (.func (.func 33) #[] #[]), .is (.pointer (some ⟨g + 2, 0, none⟩)), .is (.pointer (some ⟨g + 2, 0, none⟩)), .is (.pointer (some ⟨g + 2, 1, none⟩)), .is (.slice ra (rdK h h.length).length rk), .is (.pointer (some ⟨g + 2, 0, none⟩)), .is (.pointer (some ⟨g + 2, 0, none⟩)), .is (.pointer (some ⟨g + 2, 1, none⟩)), .is (.slice ra (rdK h h.length).length rk), .is (.func (.func 41) #[] #[.pointer (some ⟨gp, 0, none⟩)]), .is (.slice none 0 0), .is (.slice none 0 0)] (by kernel_rfl) rfl (by kernel_rfl) (by kernel_rfl) (.cons ?g10_0 (.cons ?g10_1 (.cons ?g10_2 (.cons ?g10_3 (.cons ?g10_4 (.cons ?g10_5 (.cons ?g10_6 (.cons ?g10_7 (.cons ?g10_8 (.cons ?g10_9 (.cons ?g10_10 (.cons ?g10_11 .nil)))))))))))) ?g10_fin
                          case g10_0 =>
                            intro wq hbw st  K hK
                            simp only [Act.put, List.setIfInBounds_toArray, List.set_cons_zero, List.set_cons_succ] at hK ⊢
                            unfold opStep
                            rw [if_pos (by rfl)]
                            go_simp
                            exact hK.out _ _ (Below.refl _ _) rfl _ rfl
                          case g10_1 =>
                            intro wq hbw st  K hK
                            simp only [Act.put, List.setIfInBounds_toArray, List.set_cons_zero, List.set_cons_succ] at hK ⊢
                            unfold opStep
                            rw [if_pos (by rfl)]
                            have c0 := (HCS.out.on hbw).2.cell
                            go_simp
                            exact hK.out _ _ (Below.refl _ _) rfl _ rfl
                          case g10_2 =>
                            intro wq hbw st  K hK
                            simp only [Act.put, List.setIfInBounds_toArray, List.set_cons_zero, List.set_cons_succ] at hK ⊢
                            unfold opStep
                            rw [if_pos (by rfl)]
                            go_simp
                            exact hK.out _ _ (Below.refl _ _) rfl _ rfl
                          case g10_3 =>
                            intro wq hbw st  K hK
                            simp only [Act.put, List.setIfInBounds_toArray, List.set_cons_zero, List.set_cons_succ] at hK ⊢
                            unfold opStep
                            rw [if_pos (by rfl)]
                            go_simp
                            exact hK.out _ _ (Below.refl _ _) rfl _ rfl
                          case g10_4 =>
                            intro wq hbw st  K hK
                            simp only [Act.put, List.setIfInBounds_toArray, List.set_cons_zero, List.set_cons_succ] at hK ⊢
                            unfold opStep
                            rw [if_pos (by rfl)]
                            have c1 := (HCS.out.on hbw).1.view.cell 1
                            go_simp
                            exact hK.out _ _ (Below.refl _ _) rfl _ rfl
                          case g10_5 =>
                            intro wq hbw st  K hK
                            simp only [Act.put, List.setIfInBounds_toArray, List.set_cons_zero, List.set_cons_succ] at hK ⊢
                            unfold opStep
                            rw [if_pos (by rfl)]
                            have c0 := (HCS.out.on hbw).2.cell
                            go_simp
                            exact hK.out _ _ (Below.refl _ _) rfl _ rfl
                          case g10_6 =>
                            intro wq hbw st  K hK
                            simp only [Act.put, List.setIfInBounds_toArray, List.set_cons_zero, List.set_cons_succ] at hK ⊢
                            unfold opStep
                            rw [if_pos (by rfl)]
                            go_simp
                            exact hK.out _ _ (Below.refl _ _) rfl _ rfl
                          case g10_7 =>
                            intro wq hbw st  K hK
                            simp only [Act.put, List.setIfInBounds_toArray, List.set_cons_zero, List.set_cons_succ] at hK ⊢
                            unfold opStep
                            rw [if_pos (by rfl)]
                            go_simp
                            exact hK.out _ _ (Below.refl _ _) rfl _ rfl
                          case g10_8 =>
                            intro wq hbw st  K hK
                            simp only [Act.put, List.setIfInBounds_toArray, List.set_cons_zero, List.set_cons_succ] at hK ⊢
                            unfold opStep
                            rw [if_pos (by rfl)]
                            have c1 := (HCS.out.on hbw).1.view.cell 1
                            go_simp
                            exact hK.out _ _ (Below.refl _ _) rfl _ rfl
                          case g10_9 =>
                            intro wq hbw st  K hK
                            simp only [Act.put, List.setIfInBounds_toArray, List.set_cons_zero, List.set_cons_succ] at hK ⊢
                            unfold opStep
                            rw [if_pos (by rfl)]
                            go_simp
                            exact hK.out _ _ (Below.refl _ _) rfl _ rfl
                          case g10_10 =>
                            intro wq hbw st  K hK
                            simp only [Act.put, List.setIfInBounds_toArray, List.set_cons_zero, List.set_cons_succ] at hK ⊢
                            unfold opStep
                            rw [if_pos (by rfl)]
                            go_simp
                            have hpc := pairs6_any gp (rdK h h.length) (rdK h h.length) (backB h) (.slice ra (rdK h h.length).length rk) (.slice ra (rdK h h.length).length rk) wq (HRR.out wq (HCS.out.on hbw)) (HRR.out wq (HCS.out.on hbw)) (fun x hx => by have := (HRB.out x hx).1; omega) (fun x hx => by have := (HRB.out x hx).1; omega) (fun i hi k hk wz hz => clo6_any gp g (.slice ao h.length cap) h i k wz (HCS.out.on (hbw.trans (hz.mono hbw.size))).2 (HVR.out wz (HCS.out.on (hbw.trans (hz.mono hbw.size)))) (HR.out.on (KW.out.trans ((hbw.trans (hz.mono hbw.size)).mono KW.out.size))) HS.out (HRB.out i hi).1 (HRB.out k hk).1 (HRB.out i hi).2 (HRB.out k hk).2)
                            refine hpc.mono ?_
                            rintro e wz ⟨hor, hbz⟩
                            rcases hor with ⟨_, rfl⟩ | ⟨i, k, gq, ho, _⟩
                            · try go_simp
                              exact hK.out _ _ hbz rfl _ rfl
                            · rw [HQ.out] at ho; cases ho
                          case g10_11 =>
                            intro wq hbw st  K hK
                            simp only [Act.put, List.setIfInBounds_toArray, List.set_cons_zero, List.set_cons_succ] at hK ⊢
                            unfold opStep
                            rw [if_pos (by rfl)]
                            go_simp
                            exact hK.out _ _ (Below.refl _ _) rfl _ rfl
                          case g10_fin =>
                            intro wq hbw
                            try simp only [FinAll]
                            simp only [Act.put, List.setIfInBounds_toArray, List.set_cons_zero, List.set_cons_succ]
                            replace HCS := Lib.hid (HCS.out.on hbw)
                            replace KW := Lib.hid (KW.out.trans (hbw.mono KW.out.size))
                            clear hbw HQ
                            obtain ⟨wr, hwr⟩ : ∃ w, w = wq := ⟨_, rfl⟩
                            subst hwr
                            have c0 := HCS.out.2.cell
                            have c2 := HCS.out.1.view.cell 2
                            go_wp2
                            go_loopg [145] (upK h h.length).length (fun m i wz => ∃ a : Nat, m + a = (upK h h.length).length ∧ i = .int .i64 a ∧ (∀ a' (h' : a' < (upK h h.length).length), a' < a → ((upK h h.length).findSome? fun w => swF h (upK h h.length)[a'] w) = none) ∧ CS W0 (.slice ao h.length cap) h g gp (.slice ra (rdK h h.length).length rk) (.slice uA' (upK h h.length).length uk) nM ms S wz ∧ Below W.heap.size W wz)
                            case atStart => exact ⟨0, by omega, rfl, (fun a' h' hlt => by omega), HCS.out, KW.out⟩
                            case round =>
                              clear HCS KW c0 c2
                              obtain ⟨a, hma, rfl, hall, hcs, hbel⟩ := hrel
                              have HM := Lib.hid hma
                              have HALL := Lib.hid hall
                              have HCS := Lib.hid hcs
                              have KW := Lib.hid hbel
                              have ha : a ≤ (upK h h.length).length := by omega
                              clear hma hall hcs hbel
                              by_cases hal : a < (upK h h.length).length
                              · obtain ⟨h', hx⟩ := nn_at hal
                                obtain ⟨bu, ou, cu, hv, hbo, hco⟩ := int_at (HUR.out _ HCS.out) h'
                                rw [hx] at hco
                                injection hv with e1 e2 e3
                                subst e1
                                have hai : (a : Int) < (upK h h.length).length := by omega
                                have ha0 : (0 : Int) ≤ (a : Int) := by omega
                                have q0 := hco
                                unfold vi at q0
                                have HUM := Lib.hid (HUB.out _ (List.getElem_mem hal))
                                have HFA := Lib.hid (fun (y : Nat × Nat × Nat) hp => some_at (f := fun u => (upK h h.length).findSome? fun w => swF h u w) (y := y) hal HALL.out hp)
                                have HNX : Hid (((upK h h.length).findSome? fun w => swF h (upK h h.length)[a] w) = none → ∀ a' (h' : a' < (upK h h.length).length), a' < a + 1 → ((upK h h.length).findSome? fun w => swF h (upK h h.length)[a'] w) = none) := Lib.hid fun h1 a' h' hlt => by
                                  by_cases e : a' = a
                                  · subst e; exact h1
                                  · exact HALL.out a' h' (by omega)
                                clear e2 e3 hco hbo hx h'
                                generalize (upK h h.length)[a] = u at *
                                clear hal
                                have hu0 : u ≤ 1000 := by have := HUM.out.1; omega
                                have c0 := HCS.out.2.cell
                                have c2 := HCS.out.1.view.cell 2
                                obtain ⟨G3, hG3⟩ : ∃ G, G = gk := ⟨_, rfl⟩
                                subst hG3
                                go_wp2
                                go_loopg [154] (upK h h.length).length (fun m i wz => ∃ b : Nat, m + b = (upK h h.length).length ∧ i = .int .i64 b ∧ (∀ b' (h' : b' < (upK h h.length).length), b' < b → swF h u (upK h h.length)[b'] = none) ∧ CS W0 (.slice ao h.length cap) h g gp (.slice ra (rdK h h.length).length rk) (.slice (some ⟨bu, ou, none⟩) (upK h h.length).length uk) nM ms S wz ∧ Below W.heap.size W wz)
                                case atStart => exact ⟨0, by omega, rfl, (fun b' h' hlt => by omega), HCS.out, KW.out⟩
                                case round =>
                                  clear HCS KW c0 c2 q0
                                  obtain ⟨b, hmb, rfl, hrow, hcs, hbel⟩ := hrel
                                  have HM2 := Lib.hid hmb
                                  have HROW := Lib.hid hrow
                                  have HCS := Lib.hid hcs
                                  have KW := Lib.hid hbel
                                  have hb : b ≤ (upK h h.length).length := by omega
                                  clear hmb hrow hcs hbel
                                  by_cases hbl : b < (upK h h.length).length
                                  · obtain ⟨h', hx⟩ := nn_at hbl
                                    obtain ⟨bu', ou', cu', hv, hbo, hco⟩ := int_at (HUR.out _ HCS.out) h'
                                    rw [hx] at hco
                                    injection hv with e1 e2 e3
                                    injection e1 with e1
                                    injection e1 with e1 e4
                                    subst e1 e4
                                    have hbi : (b : Int) < (upK h h.length).length := by omega
                                    have hb0 : (0 : Int) ≤ (b : Int) := by omega
                                    have q0 := hco
                                    unfold vi at q0
                                    have HWM := Lib.hid (HUB.out _ (List.getElem_mem hbl))
                                    have HFB := Lib.hid (fun (y : Nat × Nat × Nat) hp => some_at (f := fun w => swF h u w) (y := y) hbl HROW.out hp)
                                    have HNB : Hid (swF h u (upK h h.length)[b] = none → ∀ b' (h' : b' < (upK h h.length).length), b' < b + 1 → swF h u (upK h h.length)[b'] = none) := Lib.hid fun h1 b' h' hlt => by
                                      by_cases e : b' = b
                                      · subst e; exact h1
                                      · exact HROW.out b' h' (by omega)
                                    clear e2 e3 hco hbo hx h'
                                    generalize (upK h h.length)[b] = x at *
                                    clear hbl
                                    have hx0 : x ≤ 1000 := by have := HWM.out.1; omega
                                    have c0 := HCS.out.2.cell
                                    go_wp2_with fail
                                    refine (vbefore_any g _ h u x _ (HVR.out _ HCS.out) (HR.out.on KW.out) HUM.out.1 HWM.out.1).mono ?_
                                    rintro e w5 ⟨rfl, hb5⟩
                                    replace HCS := Lib.hid (HCS.out.on hb5)
                                    replace KW := Lib.hid (KW.out.trans (hb5.mono KW.out.size))
                                    clear hb5
                                    have c0 := HCS.out.2.cell
                                    cases hp : prI h u x with
                                    | false =>
                                      have HG := Lib.hid (HNB.out (by unfold swF; rw [hp]; rfl))
                                      clear hp
                                      go_wp2
                                      go_roundg ((upK h h.length).length - (b + 1))
                                      case measure => have := HM2.out; omega
                                      case rel => exact ⟨b + 1, by omega, by go_num, HG.out, HCS.out, KW.out⟩
                                    | true =>
                                      have HSW : Hid (swF h u x = ((rdK h h.length).find? fun r => decide (ShowI h r x) && !decide (ShowI h r u)).map (fun r => (u, x, r))) := Lib.hid (by unfold swF; rw [if_pos hp])
                                      have c1 := HCS.out.1.view.cell 1
                                      clear hp q0
                                      obtain ⟨G4, hG4⟩ : ∃ G, G = gk := ⟨_, rfl⟩
                                      subst hG4
                                      go_wp2
                                      go_loopg [168] (rdK h h.length).length (fun m i wz => ∃ c : Nat, m + c = (rdK h h.length).length ∧ i = .int .i64 c ∧ (∀ c' (h' : c' < (rdK h h.length).length), c' < c → (decide (ShowI h (rdK h h.length)[c'] x) && !decide (ShowI h (rdK h h.length)[c'] u)) = false) ∧ CS W0 (.slice ao h.length cap) h g gp (.slice ra (rdK h h.length).length rk) (.slice (some ⟨bu, ou, none⟩) (upK h h.length).length uk) nM ms S wz ∧ Below W.heap.size W wz)
                                      case atStart => exact ⟨0, by omega, rfl, (fun c' h' hlt => by omega), HCS.out, KW.out⟩
                                      case round =>
                                        clear HCS KW c0 c1
                                        obtain ⟨c, hmc, rfl, hcol, hcs, hbel⟩ := hrel
                                        have HM3 := Lib.hid hmc
                                        have HCOL := Lib.hid hcol
                                        have HCS := Lib.hid hcs
                                        have KW := Lib.hid hbel
                                        have hc : c ≤ (rdK h h.length).length := by omega
                                        clear hmc hcol hcs hbel
                                        by_cases hcl : c < (rdK h h.length).length
                                        · obtain ⟨h', hx⟩ := nn_at hcl
                                          obtain ⟨br, or, cr, hv, hbo, hco⟩ := int_at (HRR.out _ HCS.out) h'
                                          rw [hx] at hco
                                          injection hv with e1 e2 e3
                                          subst e1
                                          have hci : (c : Int) < (rdK h h.length).length := by omega
                                          have hc0' : (0 : Int) ≤ (c : Int) := by omega
                                          have q0 := hco
                                          unfold vi at q0
                                          have HRM := Lib.hid (HRB.out _ (List.getElem_mem hcl))
                                          have HFC := Lib.hid (fun hp => find_at (P := fun r => decide (ShowI h r x) && !decide (ShowI h r u)) hcl HCOL.out hp)
                                          have HNC : Hid ((decide (ShowI h (rdK h h.length)[c] x) && !decide (ShowI h (rdK h h.length)[c] u)) = false → ∀ c' (h' : c' < (rdK h h.length).length), c' < c + 1 → (decide (ShowI h (rdK h h.length)[c'] x) && !decide (ShowI h (rdK h h.length)[c'] u)) = false) := Lib.hid fun h1 c' h' hlt => by
                                            by_cases e : c' = c
                                            · subst e; exact h1
                                            · exact HCOL.out c' h' (by omega)
                                          clear e2 e3 hco hbo hx h'
                                          generalize (rdK h h.length)[c] = r at *
                                          clear hcl
                                          have hr0 : r ≤ 1000 := by have := HRM.out.1; omega
                                          have c0 := HCS.out.2.cell
                                          go_wp2_with fail
                                          refine (shows_any g _ h r x _ (HVR.out _ HCS.out) (HR.out.on KW.out) HS.out HRM.out.1 HWM.out.1 HRM.out.2).mono ?_
                                          rintro e w5 ⟨rfl, hb5⟩
                                          replace HCS := Lib.hid (HCS.out.on hb5)
                                          replace KW := Lib.hid (KW.out.trans (hb5.mono KW.out.size))
                                          clear hb5
                                          have c0 := HCS.out.2.cell
                                          cases h1 : decide (ShowI h r x) with
                                          | false =>
                                            have HG := Lib.hid (HNC.out (by rw [h1]; rfl))
                                            clear h1
                                            go_wp2
                                            go_roundg ((rdK h h.length).length - (c + 1))
                                            case measure => have := HM3.out; omega
                                            case rel => exact ⟨c + 1, by omega, by go_num, HG.out, HCS.out, KW.out⟩
                                          | true =>
                                            have H1 := Lib.hid h1
                                            clear h1
                                            go_wp2_with fail
                                            refine (shows_any g _ h r u _ (HVR.out _ HCS.out) (HR.out.on KW.out) HS.out HRM.out.1 HUM.out.1 HRM.out.2).mono ?_
                                            rintro e w6 ⟨rfl, hb5⟩
                                            replace HCS := Lib.hid (HCS.out.on hb5)
                                            replace KW := Lib.hid (KW.out.trans (hb5.mono KW.out.size))
                                            clear hb5
                                            cases h2 : decide (ShowI h r u) with
                                            | true =>
                                              have HG := Lib.hid (HNC.out (by rw [H1.out, h2]; rfl))
                                              clear h2
                                              go_wp2
                                              go_roundg ((rdK h h.length).length - (c + 1))
                                              case measure => have := HM3.out; omega
                                              case rel => exact ⟨c + 1, by omega, by go_num, HG.out, HCS.out, KW.out⟩
                                            | false =>
                                              have HE : Hid (resR h = (8, [(u : Int), (x : Int), (r : Int)])) := Lib.hid (HRS.out.trans (by
                                                have h3 : tripF h = some (u, x, r) := HFA.out _ (HFB.out _ (by rw [HSW.out, HFC.out (by rw [H1.out, h2]; rfl)]; rfl))
                                                unfold res8
                                                rw [h3]))
                                              have HBL : Hid (Reads vi (w6.alloc (.cells #[.int .i64 (u : Int), .int .i64 (x : Int), .int .i64 (r : Int)] 3)) (.slice (some ⟨w6.heap.size, 0, none⟩) 3 3) [(u : Int), (x : Int), (r : Int)]) := Lib.hid (blk_reads (xs := [(u : Int), (x : Int), (r : Int)]) (Blk.new w6 3 #[.int .i64 (u : Int), .int .i64 (x : Int), .int .i64 (r : Int)]) rfl (by simp))
                                              clear h2
                                              go_wp2
                                              refine bodyPost_ret (v := .tuple #[.int .i64 8, .slice (some ⟨w6.heap.size, 0, none⟩) 3 3]) (by simp [results, Tryz.results13, go_sem]) rfl ?_
                                              rw [HE.out]
                                              exact ⟨_, rfl, HBL.out, KW.out.alloc KW.out.size _⟩
                                        · have HG := Lib.hid (HNB.out (by rw [HSW.out, find_none (fun c' h' => HCOL.out c' h' (by omega))]; rfl))
                                          have hcx : ¬ (c : Int) < (rdK h h.length).length := by omega
                                          go_wp2
                                          go_roundg ((upK h h.length).length - (b + 1))
                                          case measure => have := HM2.out; omega
                                          case rel => exact ⟨b + 1, by omega, by go_num, HG.out, HCS.out, KW.out⟩
                                  · have HG := Lib.hid (HNX.out (some_none fun b' h' => HROW.out b' h' (by omega)))
                                    have hbx : ¬ (b : Int) < (upK h h.length).length := by omega
                                    go_wp2
                                    go_roundg ((upK h h.length).length - (a + 1))
                                    case measure => have := HM.out; omega
                                    case rel => exact ⟨a + 1, by omega, by go_num, HG.out, HCS.out, KW.out⟩
                              · have HE : Hid (resR h = (0, [])) := Lib.hid (HRS.out.trans (by
                                  have h3 : tripF h = none := some_none fun a' h' => HALL.out a' h' (by omega)
                                  unfold res8
                                  rw [h3]))
                                have hax : ¬ (a : Int) < (upK h h.length).length := by omega
                                go_wp2
                                refine bodyPost_ret (v := .tuple #[.int .i64 0, .slice none 0 0]) (by simp [results, Tryz.results13, go_sem]) rfl ?_
                                rw [HE.out]
                                exact ⟨_, rfl, Reads.nil _, KW.out⟩
  · have HRES : Hid (resR h = (1, [((chkL h).1 : Int)])) := Lib.hid (if_neg h0)
    have e0 := bne_t h0
    have HBL : Hid (Reads vi (w1.alloc (.cells #[.int .i64 ((chkL h).1 : Int)] 3)) (.slice (some ⟨w1.heap.size, 0, none⟩) 1 1) [((chkL h).1 : Int)]) := Lib.hid (blk_reads (xs := [((chkL h).1 : Int)]) (Blk.new w1 3 #[.int .i64 ((chkL h).1 : Int)]) rfl (by simp))
    clear h0
    go_wp2
    refine bodyPost_ret (v := .tuple #[.int .i64 1, .slice (some ⟨w1.heap.size, 0, none⟩) 1 1]) (by simp [results, Tryz.results13, go_sem]) rfl ?_
    rw [HRES.out]
    exact ⟨_, rfl, HBL.out, KW1.out.alloc KW1.out.size _⟩
end Go.Proofs.YtjijlhjggpibjaaGreat
