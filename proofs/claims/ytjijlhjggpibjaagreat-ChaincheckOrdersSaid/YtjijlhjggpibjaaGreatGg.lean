/-
  Chapter 55: Order.
-/
import Derived.Test.YtjijlhjggpibjaaGreatGh
namespace Go.Proofs.YtjijlhjggpibjaaGreat
open Go.RowKit Go.Maps

def OrderMade (W : World) (h : List Opn) (e : Ending) (w' : World) : Prop := ∃ v l, e = .returned (.tuple #[v, .bool (decide ((resR h).1 = 0))]) ∧ Reads vi w' v (intsNN l) ∧ l = (if (resR h).1 = 0 then ordI h else []) ∧ Below W.heap.size W w'
theorem order_no {W w' : World} {h : List Opn} (hz : ¬ (resR h).1 = 0) (hb : Below W.heap.size W w') : OrderMade W h (.returned (.tuple #[.slice none 0 0, .bool false])) w' :=
  ⟨.slice none 0 0, [], by rw [decide_eq_false hz], Reads.nil _, by rw [if_neg hz], hb⟩
theorem order_yes {W w' : World} {h : List Opn} {v : Value} {l : List Nat} (hz : (resR h).1 = 0) (hr : Reads vi w' v (intsNN l)) (he : l = ordI h) (hb : Below W.heap.size W w') : OrderMade W h (.returned (.tuple #[v, .bool true])) w' :=
  ⟨v, l, by rw [decide_eq_true hz], hr, by rw [if_pos hz]; exact he, hb⟩
/-- The reads before b that show an update. -/
def shB (h : List Opn) (u b : Nat) : List Nat := ((rdK h h.length).take b).filter fun r => decide (ShowI h r u)
theorem shB_all (h : List Opn) (u : Nat) : shB h u (rdK h h.length).length = showers h u := by
  unfold shB showers rdK
  rw [List.take_length, List.filter_filter]
  congr 1
  funext r
  rw [Bool.and_comm]
theorem shB_snoc {h : List Opn} {u b : Nat} (hb : b < (rdK h h.length).length) : shB h u (b + 1) = shB h u b ++ if ShowI h (rdK h h.length)[b] u then [(rdK h h.length)[b]] else [] := by
  unfold shB
  rw [List.take_succ_eq_append_getElem hb, List.filter_append]
  congr 1
  by_cases e : ShowI h (rdK h h.length)[b] u <;> simp [e]
theorem rd_up {h : List Opn} {r u : Nat} (hr : RdI h r) (hu : UpI h u) : ¬ (r : Int) = (u : Int) := fun e => by
  have : r = u := by omega
  subst this
  have h1 := hr.1
  have h2 : kindO (nth h r) = 1 := hu
  omega
theorem wplT : plcT.t = 42 := rfl

set_option maxRecDepth 100000 in
set_option maxHeartbeats 32000000 in
theorem order_any (v : Value) (h : List Opn) (W : World) (hr : ReadsO W v h) (hs : SmallH h) : Calls Tryz.prog 6 #[v] W (OrderMade W h) := by
  have HR := Lib.hid hr
  have HS := Lib.hid hs
  have hn := hs.1
  obtain ⟨ao, cap, rfl, hl, hm, -, -⟩ := hr
  unfold maxLen at hm
  clear hs
  have HBW : Hid (Below W.heap.size W (W.alloc (.cells #[.slice ao h.length cap] 22))) := Lib.hid ((Below.refl _ _).alloc (Nat.le_refl _) _)
  have HBX := Lib.hid (Blk.new W 22 #[.slice ao h.length cap])
  go_enter Tryz.func6, Tryz.ntmps6
  go_wp2_with fail
  refine (ck_any _ h _ (HR.out.on HBW.out) HS.out).mono ?_
  rintro e w1 ⟨v1, rfl, hr1, hb1⟩
  have KW1 := Lib.hid (HBW.out.trans (hb1.mono HBW.out.size))
  have HB1 := Lib.hid (HBX.out.on hb1)
  clear hr1 hb1 HBW HBX
  by_cases hz : (resR h).1 = 0
  · have HZ := Lib.hid hz
    have HWN := Lib.hid (res_ok hz)
    obtain ⟨C, hC, hD⟩ := chainR_is HWN.out.1 HWN.out.2
    have HD := Lib.hid hD
    have e0 := bne_f hz
    have hcl : C.length ≤ h.length := by
      have h1 := hC
      unfold chainR at h1
      rw [if_pos (chk_well.2 HWN.out.1)] at h1
      exact chainK_len h1
    have HC := Lib.hid hC
    have c1 : w1.cell? ⟨W.heap.size, 0, none⟩ = some (.slice ao h.length cap) := HB1.out.cell 0
    clear hz hC hD
    go_wp2_with fail
    refine (chain_any _ h w1 (HR.out.on KW1.out) HS.out).mono ?_
    rintro e w2 hch
    rw [HC.out] at hch
    obtain ⟨vc, rfl, hown⟩ := hch
    have HO2 := Lib.hid hown
    obtain ⟨ca, ck, rfl⟩ : ∃ a c, vc = .slice a C.length c := by obtain ⟨_, cells, h2, _⟩ := hown; exact row_slc h2
    have KW2 := Lib.hid (KW1.out.trans (hown.1.mono KW1.out.size))
    have HB2 := Lib.hid (HB1.out.on hown.1)
    have c2 : w2.cell? ⟨W.heap.size, 0, none⟩ = some (.slice ao h.length cap) := HB2.out.cell 0
    clear hown c1 HB1 HC
    go_wp2_with fail
    refine (look_any _ h w2 (HR.out.on KW2.out) HS.out HWN.out.1).mono ?_
    rintro e w3 ⟨g, rfl, hg, hvr, hb3⟩
    have HVR := Lib.hid hvr
    obtain ⟨W0, vr, vu, nM, ms, S, hvw, hse⟩ := hvr
    have HVW := Lib.hid hvw
    have HSE := Lib.hid hse
    have KW := Lib.hid (KW2.out.trans (hb3.mono KW2.out.size))
    have HB3 := Lib.hid (HB2.out.on hb3)
    have HO3 := Lib.hid (HO2.out.later hb3)
    obtain ⟨ra, rk, rfl⟩ := row_slc hvw.rr
    obtain ⟨ua, uk, rfl⟩ := row_slc hvw.ru
    have HRR : Hid (∀ wq, Below w3.heap.size w3 wq → Reads vi wq (.slice ra (rdK h h.length).length rk) (intsNN (rdK h h.length))) := Lib.hid fun wq hq => by
      have h9 := Reads.of_owns (enc := vi) (HVW.out.on hq).rr
      exact h9
    have HUR : Hid (∀ wq, Below w3.heap.size w3 wq → Reads vi wq (.slice ua (upK h h.length).length uk) (intsNN (upK h h.length))) := Lib.hid fun wq hq => by
      have h9 := Reads.of_owns (enc := vi) (HVW.out.on hq).ru
      exact h9
    have hrk : (rdK h h.length).length ≤ rk ∧ rk ≤ 2 ^ 63 - 1 := by
      obtain ⟨a, c, e, h1, h2, _⟩ := HRR.out _ (Below.refl _ _)
      injection e with _ _ e3
      unfold maxLen at h2
      rw [nn_len] at h1
      omega
    have huk : (upK h h.length).length ≤ uk ∧ uk ≤ 2 ^ 63 - 1 := by
      obtain ⟨a, c, e, h1, h2, _⟩ := HUR.out _ (Below.refl _ _)
      injection e with _ _ e3
      unfold maxLen at h2
      rw [nn_len] at h1
      omega
    have HRB : Hid (∀ x ∈ rdK h h.length, x < h.length ∧ RdI h x) := Lib.hid fun x hx => mem_rdK.1 hx
    have HUB : Hid (∀ x ∈ upK h h.length, x < h.length ∧ UpI h x) := Lib.hid fun x hx => mem_upK.1 hx
    have hrn := rdK_len h h.length
    have hun := upK_len h h.length
    have HV : Hid (∀ wq, Below w3.heap.size w3 wq → wq.cell? ⟨g + 2, 1, none⟩ = some (.slice ra (rdK h h.length).length rk) ∧ wq.cell? ⟨g + 2, 2, none⟩ = some (.slice ua (upK h h.length).length uk) ∧ wq.cell? ⟨g + 2, 4, none⟩ = some (.slice (some ⟨g + 1, 0, none⟩) h.length h.length) ∧ wq.cell? ⟨W.heap.size, 0, none⟩ = some (.slice ao h.length cap)) := Lib.hid fun wq hq =>
      ⟨(HVW.out.on hq).view.cell 1, (HVW.out.on hq).view.cell 2, (HVW.out.on hq).view.cell 4, (HB3.out.on hq).cell 0⟩
    have HPL : Hid (W.heap.size < w3.heap.size) := Lib.hid HB3.out.lt
    have HLVR : Hid (∀ r ∈ rdK h h.length, lvZ h C r = (ixL C (seeO (nth h r)).length : Nat) ∧ lastK (seeO (nth h r)).length C C.length = some (ixL C (seeO (nth h r)).length)) := Lib.hid fun r hr => by
      obtain ⟨r1, r2⟩ := HRB.out r hr
      obtain ⟨q1, q2⟩ := read_ix HWN.out.1 HD.out r1 r2
      refine ⟨?_, ?_⟩
      · unfold lvZ lvC
        rw [if_neg (by rw [r2.1]; decide)]
      · have h1 := lastK_at HD.out.inc q1 C.length q1 (Nat.le_refl _)
        rw [q2] at h1
        exact h1
    have HOS0 : Hid (OrdS w3 ((w3.alloc (.map #[] 0)).alloc (.cells #[.map (some w3.heap.size)] 42)) (.slice none 0 0) (finM [] (lvZ h C)) 0 []) := Lib.hid (by
      have h1 := MapAt.made plcT w3
      have h2 := Blk.new (w3.alloc (.map #[] 0)) 42 #[.map (some w3.heap.size)]
      rw [World.size_alloc] at h2
      refine ⟨((Below.refl _ _).alloc (Nat.le_refl _) _).alloc (by simp) _, h2, ?_, World.ownsRow_nil _ _ _ _⟩
      rw [finM_nil]
      exact h1.on ((Below.refl _ _).alloc (Nat.le_refl _) _))
    clear hvw hse hb3 hg c2 HB2 HO2 KW2 KW1 e0
    have v1 := (HV.out _ HOS0.out.bel).1
    go_wp2_with (refine wpList_make_map rfl 42 rfl ?_)
    clear v1
    go_loopg [10, 40] (rdK h h.length).length (fun m o i wr => ∃ a nM', m + a = (rdK h h.length).length ∧ i = .int .i64 ((a : Nat) : Int) ∧ OrdS w3 wr o (finM ((rdK h h.length).take a) (lvZ h C)) nM' ((rdK h h.length).take a) ∧ nM' ≤ 1000 * a)
    case atStart => exact ⟨0, 0, by omega, rfl, HOS0.out, by omega⟩
    case round =>
      clear HOS0
      obtain ⟨a, nM', hma, rfl, hos, hnm⟩ := hrel
      have HM := Lib.hid hma
      have HOS := Lib.hid hos
      have KZ := Lib.hid hos.bel
      have ha : a ≤ (rdK h h.length).length := by omega
      clear hma hos
      by_cases hal : a < (rdK h h.length).length
      · obtain ⟨h', hx⟩ := nn_at hal
        obtain ⟨bo, oo, co, hv, hbo, hco⟩ := int_at (HRR.out _ KZ.out) h'
        rw [hx] at hco
        injection hv with e1 e2 e3
        subst e1
        have hai : (a : Int) < (rdK h h.length).length := by omega
        have ha0 : (0 : Int) ≤ (a : Int) := by omega
        have q0 := hco
        unfold vi at q0
        have HRM := Lib.hid (HRB.out _ (List.getElem_mem hal))
        have HLV := Lib.hid (HLVR.out _ (List.getElem_mem hal))
        have HTK : Hid ((rdK h h.length).take (a + 1) = (rdK h h.length).take a ++ [(rdK h h.length)[a]]) := Lib.hid (List.take_succ_eq_append_getElem hal)
        have htl : ((rdK h h.length).take a).length ≤ 1000 := by rw [List.length_take]; omega
        clear e2 e3 hco hbo hx h'
        generalize (rdK h h.length)[a] = r at *
        generalize (rdK h h.length).take a = la at *
        clear hal
        obtain ⟨br, hbr, hSr⟩ := HSE.out r HRM.out.1 HRM.out.2
        have HSB : Hid (∀ wq, Below w3.heap.size w3 wq → SetB wq br (seeO (nth h r)).length (seeO (nth h r)) ∧ wq.cell? ⟨g + 1, r, none⟩ = some (.map (some br))) := Lib.hid fun wq hq => by
          have h8 := HVW.out.on hq
          have h9 := (h8.sets r br hbr).2
          rw [hSr] at h9
          exact ⟨h9, (h8.sees.cell r).trans (by rw [msA_at HRM.out.1, hbr])⟩
        have HUQ : Hid ((uniq (seeO (nth h r))).length = (seeO (nth h r)).length) := Lib.hid (uniq_len (see_nodup HWN.out.1 HRM.out.1) fun x => Iff.rfl)
        have hri : (r : Int) < h.length := by have := HRM.out.1; omega
        have hr0 : (0 : Int) ≤ (r : Int) := by omega
        have HOK : Hid (plcT.ok (r : Int)) := Lib.hid (⟨by omega, by omega⟩ : 0 ≤ (r : Int) ∧ (r : Int) < 4294967296)
        have hslen : (seeO (nth h r)).length ≤ 1000 := by rw [nth_eq HRM.out.1]; exact (HS.out.2 _ (List.getElem_mem HRM.out.1)).2.1
        clear hbr hSr
        generalize seeO (nth h r) = sr at *
        obtain ⟨G2, hG2⟩ : ∃ G, G = gk := ⟨_, rfl⟩
        subst hG2
        go_wp2
        clear q0
        obtain ⟨wo, hwo⟩ : ∃ x, x = wr := ⟨_, rfl⟩
        rw [← hwo] at HOS KZ ⊢
        clear hwo
        go_loopg [46] C.length (fun m i wz => ∃ j nM2, m + j = C.length ∧ i = .int .i64 ((j : Nat) : Int) ∧ OrdS w3 wz u10 (putO (finM la (lvZ h C)) (r : Int) (lastK sr.length C j)) nM2 la ∧ nM2 ≤ 1000 * a + j)
        case atStart => exact ⟨0, nM', by omega, rfl, HOS.out, by omega⟩
        case round =>
          clear HOS KZ
          obtain ⟨j, nM2, hmj, rfl, hos, hnm2⟩ := hrel
          have HM2 := Lib.hid hmj
          have HOS := Lib.hid hos
          have KZ := Lib.hid hos.bel
          have hj : j ≤ C.length := by omega
          clear hmj hos
          by_cases hjl : j < C.length
          · obtain ⟨gc, cg, sa, sc, hv, hg1, hg2, hc, hrow⟩ := (HO3.out.later KZ.out).at_ hjl
            injection hv with e1 e2 e3
            subst e1
            have hji : (j : Int) < C.length := by omega
            have hj0 : (0 : Int) ≤ (j : Int) := by omega
            have HLS : Hid (lastK sr.length C (j + 1) = if C[j].length = sr.length then some j else lastK sr.length C j) := Lib.hid (by
              show (if (C.getD j []).length = sr.length then some j else lastK sr.length C j) = _
              rw [getD_at hjl])
            have HPP := Lib.hid (putO_put (finM la (lvZ h C)) (r : Int) (lastK sr.length C j) j)
            have v4 := (HV.out _ KZ.out).2.2.1
            have m1 := (HSB.out _ KZ.out).2
            have l0 : wr.cell? ⟨w3.heap.size + 1, 0, none⟩ = some (.map (some w3.heap.size)) := HOS.out.cell.cell 0
            have hbig : nM2 < maxLen := by unfold maxLen; omega
            clear e2 e3 hg1 hg2 hrow
            generalize C[j] = S at *
            generalize lastK sr.length C j = q at *
            clear hjl
            by_cases hsl : S.length = sr.length
            · have HLT : Hid (lastK sr.length C (j + 1) = some j) := Lib.hid (by rw [HLS.out, if_pos hsl])
              have e1 : ((S.length : Int) == (sr.length : Int)) = true := beq_iff_eq.2 (by omega)
              have e2 : (S.length == sr.length) = true := beq_iff_eq.2 hsl
              have HSL := Lib.hid hsl
              clear hsl HLS
              go_wp2_with (first
                | (refine wpList_len_set rfl (.tmp 59) rfl br sr.length sr rfl (HSB.out _ KZ.out).1 ?_; rw [HUQ.out])
                | (refine wpList_map_put plcT rfl (.tmp 62) (.tmp 63) (.tmp 64) rfl w3.heap.size nM2 _ (r : Int) (j : Int) rfl HOS.out.map hbig rfl HOK.out rfl ?_))
              intro w5 hmap5 hgr5
              have HO5 := Lib.hid (HOS.out.put hmap5 hgr5)
              clear hmap5 hgr5
              go_wp2
              go_roundg (C.length - (j + 1))
              case measure => have := HM2.out; omega
              case rel => exact ⟨j + 1, nM2 + 1, by omega, by go_num, by rw [HLT.out, ← HPP.out]; exact HO5.out, by omega⟩
            · have HLT : Hid (lastK sr.length C (j + 1) = q) := Lib.hid (by rw [HLS.out, if_neg hsl])
              have e1 : ((S.length : Int) == (sr.length : Int)) = false := beq_eq_false_iff_ne.2 (by omega)
              have e2 : (S.length == sr.length) = false := beq_eq_false_iff_ne.2 hsl
              have HSL := Lib.hid hsl
              clear hsl HLS
              go_wp2_with (first
                | (refine wpList_len_set rfl (.tmp 59) rfl br sr.length sr rfl (HSB.out _ KZ.out).1 ?_; rw [HUQ.out]))
              go_roundg (C.length - (j + 1))
              case measure => have := HM2.out; omega
              case rel => exact ⟨j + 1, nM2, by omega, by go_num, by rw [HLT.out]; exact HOS.out, by omega⟩
          · have hjj : j = C.length := by omega
            subst hjj
            have HFM : Hid (putO (finM la (lvZ h C)) (r : Int) (lastK sr.length C C.length) = finM (la ++ [r]) (lvZ h C)) := Lib.hid (by
              rw [HLV.out.2, ← finM_snoc, HLV.out.1]; rfl)
            have HO6 : Hid (OrdS w3 wr u10 (finM (la ++ [r]) (lvZ h C)) nM2 la) := Lib.hid (HOS.out.set HFM.out)
            have HAL : Hid (∀ o, Below wr.heap.size wr (wr.alloc o)) := Lib.hid fun o => (Below.refl _ _).alloc (Nat.le_refl _) o
            have HONE : Hid (Reads vi (wr.alloc (.cells #[.int .i64 (r : Int)] 3)) (.slice (some ⟨wr.heap.size, 0, none⟩) 1 1) [(r : Int)]) := Lib.hid (blk_reads (xs := [(r : Int)]) (Blk.new wr _ _) rfl (by simp))
            clear HFM HOS
            go_wp2_with (at_builtin; refine appendi_reads2 rfl (.tmp 66) (.tmp 68) rfl (w3.heap.size + 2) u10 (.slice (some ⟨wr.heap.size, 0, none⟩) 1 1) la.length (intsNN la) [(r : Int)] rfl (HO6.out.on (HAL.out _)).row rfl HONE.out (by simp; omega) (by have := HO6.out.cell.lt; have := (HAL.out (.cells #[.int .i64 (r : Int)] 3)).size; omega) ?_)
            intro v8 w8 hown8 hgr8
            have HO8 := Lib.hid ((HO6.out.on (HAL.out _)).more (by rw [List.map_append]; exact hown8) hgr8)
            clear hown8 hgr8 HONE HAL HO6
            go_wp2
            go_roundg ((rdK h h.length).length - (a + 1))
            case measure => have := HM.out; omega
            case rel => exact ⟨a + 1, nM2, by omega, by go_num, by rw [HTK.out]; exact HO8.out, by omega⟩
      · have haa : a = (rdK h h.length).length := by omega
        subst haa
        have HOS2 : Hid (OrdS w3 wr u10 (finM (rdK h h.length ++ (upK h h.length).take 0) (lvZ h C)) nM' (rdK h h.length ++ ((upK h h.length).take 0).filter (incI h))) := Lib.hid (by
          have h9 := HOS.out
          rw [List.take_length] at h9
          simpa using h9)
        have hnm0 : nM' ≤ 1000000 := by omega
        have v2 := (HV.out _ KZ.out).2.1
        clear HOS HM hnm HLVR
        go_wp2
        clear v2
        obtain ⟨wo, hwo⟩ : ∃ x, x = wr := ⟨_, rfl⟩
        rw [← hwo] at HOS2 KZ ⊢
        clear hwo
        obtain ⟨G2, hG2⟩ : ∃ G, G = gk := ⟨_, rfl⟩
        subst hG2
        go_loopg [10, 76] (upK h h.length).length (fun m o i wr => ∃ a nM2, m + a = (upK h h.length).length ∧ i = .int .i64 ((a : Nat) : Int) ∧ OrdS w3 wr o (finM (rdK h h.length ++ (upK h h.length).take a) (lvZ h C)) nM2 (rdK h h.length ++ ((upK h h.length).take a).filter (incI h)) ∧ nM2 ≤ 1000000 + 2000 * a)
        case atStart => exact ⟨0, nM', by omega, rfl, HOS2.out, by omega⟩
        case round =>
          clear HOS2 KZ
          obtain ⟨a, nM2, hma, rfl, hos, hnm⟩ := hrel
          have HM := Lib.hid hma
          have HOS := Lib.hid hos
          have KZ := Lib.hid hos.bel
          have ha : a ≤ (upK h h.length).length := by omega
          clear hma hos
          by_cases hal : a < (upK h h.length).length
          · obtain ⟨h', hx⟩ := nn_at hal
            obtain ⟨bo, oo, co, hv, hbo, hco⟩ := int_at (HUR.out _ KZ.out) h'
            rw [hx] at hco
            injection hv with e1 e2 e3
            subst e1
            have hai : (a : Int) < (upK h h.length).length := by omega
            have ha0 : (0 : Int) ≤ (a : Int) := by omega
            have q0 := hco
            unfold vi at q0
            have HUM := Lib.hid (HUB.out _ (List.getElem_mem hal))
            have HTK : Hid ((upK h h.length).take (a + 1) = (upK h h.length).take a ++ [(upK h h.length)[a]]) := Lib.hid (List.take_succ_eq_append_getElem hal)
            have HTF : Hid (rdK h h.length ++ ((upK h h.length).take (a + 1)).filter (incI h) = (rdK h h.length ++ ((upK h h.length).take a).filter (incI h)) ++ if incI h (upK h h.length)[a] = true then [(upK h h.length)[a]] else []) := Lib.hid (by
              rw [HTK.out, List.filter_append, List.append_assoc]
              congr 2
              by_cases e : incI h (upK h h.length)[a] = true <;> simp [e])
            have htl : (rdK h h.length ++ ((upK h h.length).take a).filter (incI h)).length ≤ 2000 := by
              rw [List.length_append]
              have h1 := List.length_filter_le (incI h) ((upK h h.length).take a)
              rw [List.length_take] at h1
              omega
            clear e2 e3 hco hbo hx h'
            generalize (upK h h.length)[a] = u at *
            clear hal
            have hui : (u : Int) < h.length := by have := HUM.out.1; omega
            have hu0 : (0 : Int) ≤ (u : Int) := by omega
            have HOK : Hid (plcT.ok (u : Int)) := Lib.hid (⟨by omega, by omega⟩ : 0 ≤ (u : Int) ∧ (u : Int) < 4294967296)
            have HLU : Hid (lvZ h C u = ((minL ((showers h u).map fun r => ixL C (seeO (nth h r)).length) C.length : Nat) : Int)) := Lib.hid (by
              unfold lvZ lvC
              rw [if_pos (show kindO (nth h u) = 1 from HUM.out.2)])
            have HFI : Hid (∀ r ∈ rdK h h.length, finM (rdK h h.length ++ (upK h h.length).take a) (lvZ h C) (r : Int) = some ((ixL C (seeO (nth h r)).length : Nat) : Int)) := Lib.hid fun r hr => by
              rw [finM_at (List.mem_append_left _ hr)]
              unfold lvZ lvC
              rw [if_neg (by rw [(HRB.out r hr).2.1]; decide)]
            have HFE : Hid (updM (finM (rdK h h.length ++ (upK h h.length).take a) (lvZ h C)) (u : Int) (lvZ h C u) = finM (rdK h h.length ++ (upK h h.length).take (a + 1)) (lvZ h C)) := Lib.hid (by
              rw [HTK.out, ← List.append_assoc]
              exact finM_snoc _ _ _)
            generalize finM (rdK h h.length ++ (upK h h.length).take a) (lvZ h C) = F at *
            generalize rdK h h.length ++ ((upK h h.length).take a).filter (incI h) = lo at *
            have l0 : wr.cell? ⟨w3.heap.size + 1, 0, none⟩ = some (.map (some w3.heap.size)) := HOS.out.cell.cell 0
            have hbig : nM2 < maxLen := by unfold maxLen; omega
            obtain ⟨G3, hG3⟩ : ∃ G, G = gk := ⟨_, rfl⟩
            subst hG3
            go_wp2_with (refine wpList_map_put plcT rfl (.tmp 80) (.tmp 81) (.tmp 83) rfl w3.heap.size nM2 _ (u : Int) (C.length : Int) rfl HOS.out.map hbig rfl HOK.out rfl ?_)
            intro w5 hmap5 hgr5
            have HO5 := Lib.hid (HOS.out.put hmap5 hgr5)
            have K5 := Lib.hid HO5.out.bel
            have v1 := (HV.out _ K5.out).1
            clear hmap5 hgr5 HOS KZ l0 q0 hbig
            go_wp2
            clear v1
            go_loopg [17, 89] (rdK h h.length).length (fun m s i wz => ∃ b nM3, m + b = (rdK h h.length).length ∧ i = .int .i64 ((b : Nat) : Int) ∧ s = .bool (!(shB h u b).isEmpty) ∧ OrdS w3 wz u10 (updM F (u : Int) ((minL ((shB h u b).map fun r => ixL C (seeO (nth h r)).length) C.length : Nat) : Int)) nM3 lo ∧ nM3 ≤ 1000001 + 2000 * a + b)
            case atStart => exact ⟨0, nM2 + 1, by omega, rfl, rfl, HO5.out, by omega⟩
            case round =>
              clear HO5 K5
              obtain ⟨b, nM3, hmb, rfl, rfl, hos, hnm3⟩ := hrel
              have HM2 := Lib.hid hmb
              have HOS := Lib.hid hos
              have KZ := Lib.hid hos.bel
              have hb : b ≤ (rdK h h.length).length := by omega
              clear hmb hos
              by_cases hbl : b < (rdK h h.length).length
              · obtain ⟨h', hx⟩ := nn_at hbl
                obtain ⟨bo2, oo2, co2, hv, hbo, hco⟩ := int_at (HRR.out _ KZ.out) h'
                rw [hx] at hco
                injection hv with e1 e2 e3
                subst e1
                have hbi : (b : Int) < (rdK h h.length).length := by omega
                have hb0 : (0 : Int) ≤ (b : Int) := by omega
                have q0 := hco
                unfold vi at q0
                have HRM := Lib.hid (HRB.out _ (List.getElem_mem hbl))
                have HFR := Lib.hid (HFI.out _ (List.getElem_mem hbl))
                have HSH := Lib.hid (shB_snoc (u := u) hbl)
                clear e2 e3 hco hbo hx h'
                generalize (rdK h h.length)[b] = r at *
                clear hbl
                have HRO : Hid (plcT.ok (r : Int)) := Lib.hid (⟨by omega, by have := HRM.out.1; omega⟩ : 0 ≤ (r : Int) ∧ (r : Int) < 4294967296)
                have HNE : Hid (¬ (r : Int) = (u : Int)) := Lib.hid (rd_up HRM.out.2 HUM.out.2)
                generalize hsb : shB h u b = sb at *
                go_wp2_with fail
                refine (shows_any g _ h r u wr ⟨W0, _, _, nM, ms, S, HVW.out.on KZ.out, HSE.out⟩ ((HR.out.on KW.out).on KZ.out) HS.out HRM.out.1 HUM.out.1 HRM.out.2).mono ?_
                rintro e w6 ⟨rfl, hb6⟩
                have HO6 := Lib.hid (HOS.out.on hb6)
                clear hb6 q0 HOS KZ hsb
                by_cases hsh : ShowI h r u
                · have HD := Lib.hid (decide_eq_true hsh)
                  have HS2 : Hid (shB h u (b + 1) = sb ++ [r]) := Lib.hid (by rw [HSH.out, if_pos hsh])
                  clear hsh HSH
                  rw [HD.out]
                  have l0 : w6.cell? ⟨w3.heap.size + 1, 0, none⟩ = some (.map (some w3.heap.size)) := HO6.out.cell.cell 0
                  have hbig : nM3 < maxLen := by unfold maxLen; omega
                  have HMN := Lib.hid (minL_snoc (sb.map fun r => ixL C (seeO (nth h r)).length) (ixL C (seeO (nth h r)).length) C.length)
                  have HMP : Hid ((sb ++ [r]).map (fun r => ixL C (seeO (nth h r)).length) = (sb.map fun r => ixL C (seeO (nth h r)).length) ++ [ixL C (seeO (nth h r)).length]) := Lib.hid (by rw [List.map_append]; rfl)
                  have HEM : Hid ((!(sb ++ [r]).isEmpty) = true) := Lib.hid (by simp)
                  generalize (sb.map fun r => ixL C (seeO (nth h r)).length) = sl at *
                  generalize ixL C (seeO (nth h r)).length = ir at *
                  have HG1 : Hid (plcT.V ((updM F (u : Int) ((minL sl C.length : Nat) : Int) (u : Int)).getD plcT.z0) = .int .i64 ((minL sl C.length : Nat) : Int)) := Lib.hid (by rw [updM_same]; rfl)
                  have HG2 : Hid (plcT.V ((updM F (u : Int) ((minL sl C.length : Nat) : Int) (r : Int)).getD plcT.z0) = .int .i64 ((ir : Nat) : Int)) := Lib.hid (by rw [updM_other _ _ HNE.out, HFR.out]; rfl)
                  have HTW := Lib.hid (updM_twice F (u : Int) ((minL sl C.length : Nat) : Int))
                  have HCA : Hid (((min (minL sl C.length) ir : Nat) : Int) = min ((minL sl C.length : Nat) : Int) (ir : Int)) := Lib.hid (by omega)
                  generalize minL sl C.length = mn at *
                  go_wp2_with (first
                    | (refine wpList_map_get plcT rfl (.tmp 99) (.tmp 100) rfl w3.heap.size nM3 _ (u : Int) rfl HO6.out.map rfl HOK.out HG1.out ?_)
                    | (refine wpList_map_get plcT rfl (.tmp 102) (.tmp 103) rfl w3.heap.size nM3 _ (r : Int) rfl HO6.out.map rfl HRO.out HG2.out ?_)
                    | (refine wpList_map_put plcT rfl (.tmp 97) (.tmp 98) (.tmp 105) rfl w3.heap.size nM3 _ (u : Int) (min (mn : Int) (ir : Int)) rfl HO6.out.map hbig rfl HOK.out rfl ?_))
                  intro w7 hmap7 hgr7
                  have HO7 := Lib.hid (HO6.out.put hmap7 hgr7)
                  clear hmap7 hgr7 l0
                  go_wp2
                  go_roundg ((rdK h h.length).length - (b + 1))
                  case measure => have := HM2.out; omega
                  case rel => exact ⟨b + 1, nM3 + 1, by omega, by go_num, by rw [HS2.out, HEM.out], by rw [HS2.out, HMP.out, HMN.out, HCA.out, ← HTW.out]; exact HO7.out, by omega⟩
                · have HD := Lib.hid (decide_eq_false hsh)
                  have HS2 : Hid (shB h u (b + 1) = sb) := Lib.hid (by rw [HSH.out, if_neg hsh, List.append_nil])
                  clear hsh HSH
                  rw [HD.out]
                  go_wp2
                  go_roundg ((rdK h h.length).length - (b + 1))
                  case measure => have := HM2.out; omega
                  case rel => exact ⟨b + 1, nM3, by omega, by go_num, by rw [HS2.out], by rw [HS2.out]; exact HO6.out, by omega⟩
              · have hbb : b = (rdK h h.length).length := by omega
                subst hbb
                have HMB : Hid (((minL ((shB h u (rdK h h.length).length).map fun r => ixL C (seeO (nth h r)).length) C.length : Nat) : Int) = lvZ h C u) := Lib.hid (by rw [shB_all]; exact HLU.out.symm)
                have HO6 : Hid (OrdS w3 wr u10 (finM (rdK h h.length ++ (upK h h.length).take (a + 1)) (lvZ h C)) nM3 lo) := Lib.hid (by
                  have h9 := HOS.out
                  rw [HMB.out, HFE.out] at h9
                  exact h9)
                have HSA := Lib.hid (shB_all h u)
                have HIN : Hid (incI h u = (decide (0 ≤ endO (nth h u)) || !(showers h u).isEmpty)) := Lib.hid (by
                  unfold incI
                  rw [decide_eq_true HUM.out.2, decide_eq_false (fun q => by have h1 := q.1; have h2 : kindO (nth h u) = 1 := HUM.out.2; omega)]
                  simp)
                rw [HSA.out]
                have v3 := (HV.out _ KZ.out).2.2.2
                obtain ⟨b2, off, cap1, a4, c4, a5, c5, hv, _, _, hm4, hm5, hl4, hl5, hcell, -, -⟩ := HR.out.at2 HUM.out.1
                injection hv with e1 e2 e3
                subst e1
                have x3 := (hcell wr (KW.out.trans (KZ.out.mono KW.out.size))).2.2.2.1
                have HEN : Hid (endO (nth h u) = endO (h[u]'HUM.out.1)) := Lib.hid (by rw [nth_eq HUM.out.1])
                rw [← HEN.out] at x3
                clear e2 e3 hcell HSA HMB HOS HFE HFI HLU HEN hm4 hm5 hl4 hl5
                generalize endO (nth h u) = en at *
                have HAL : Hid (∀ o, Below wr.heap.size wr (wr.alloc o)) := Lib.hid fun o => (Below.refl _ _).alloc (Nat.le_refl _) o
                have HONE : Hid (Reads vi (wr.alloc (.cells #[.int .i64 (u : Int)] 3)) (.slice (some ⟨wr.heap.size, 0, none⟩) 1 1) [(u : Int)]) := Lib.hid (blk_reads (xs := [(u : Int)]) (Blk.new wr _ _) rfl (by simp))
                have HSZ : Hid (∀ o, w3.heap.size + 2 ≤ (wr.alloc o).heap.size) := Lib.hid fun o => by
                  have h1 := HO6.out.cell.lt
                  have h2 := (HAL.out o).size
                  omega
                cases hse : (showers h u).isEmpty with
                | false =>
                  have HI2 : Hid (rdK h h.length ++ ((upK h h.length).take (a + 1)).filter (incI h) = lo ++ [u]) := Lib.hid (by rw [HTF.out, if_pos]; rw [HIN.out, hse]; simp)
                  clear hse HTF HIN
                  go_wp2_with (at_builtin; refine appendi_reads2 rfl (.tmp 116) (.tmp 118) rfl (w3.heap.size + 2) u10 (.slice (some ⟨wr.heap.size, 0, none⟩) 1 1) lo.length (intsNN lo) [(u : Int)] rfl (HO6.out.on (HAL.out _)).row rfl HONE.out (by simp; omega) (HSZ.out _) ?_)
                  intro v8 w8 hown8 hgr8
                  have HO8 := Lib.hid ((HO6.out.on (HAL.out _)).more (by rw [List.map_append]; exact hown8) hgr8)
                  clear hown8 hgr8 HONE HAL HO6 HSZ
                  go_wp2
                  go_roundg ((upK h h.length).length - (a + 1))
                  case measure => have := HM.out; omega
                  case rel => exact ⟨a + 1, nM3, by omega, by go_num, by rw [HI2.out]; exact HO8.out, by omega⟩
                | true =>
                  by_cases he : 0 ≤ en
                  · have HI2 : Hid (rdK h h.length ++ ((upK h h.length).take (a + 1)).filter (incI h) = lo ++ [u]) := Lib.hid (by rw [HTF.out, if_pos]; rw [HIN.out, decide_eq_true he]; rfl)
                    have hed := decide_eq_true he
                    clear hse HTF HIN
                    go_wp2_with (at_builtin; refine appendi_reads2 rfl (.tmp 116) (.tmp 118) rfl (w3.heap.size + 2) u10 (.slice (some ⟨wr.heap.size, 0, none⟩) 1 1) lo.length (intsNN lo) [(u : Int)] rfl (HO6.out.on (HAL.out _)).row rfl HONE.out (by simp; omega) (HSZ.out _) ?_)
                    intro v8 w8 hown8 hgr8
                    have HO8 := Lib.hid ((HO6.out.on (HAL.out _)).more (by rw [List.map_append]; exact hown8) hgr8)
                    clear hown8 hgr8 HONE HAL HO6 HSZ
                    go_wp2
                    go_roundg ((upK h h.length).length - (a + 1))
                    case measure => have := HM.out; omega
                    case rel => exact ⟨a + 1, nM3, by omega, by go_num, by rw [HI2.out]; exact HO8.out, by omega⟩
                  · have HI2 : Hid (rdK h h.length ++ ((upK h h.length).take (a + 1)).filter (incI h) = lo) := Lib.hid (by rw [HTF.out, if_neg, List.append_nil]; rw [HIN.out, decide_eq_false he, hse]; simp)
                    have hed := decide_eq_false he
                    clear hse HTF HIN
                    go_wp2
                    go_roundg ((upK h h.length).length - (a + 1))
                    case measure => have := HM.out; omega
                    case rel => exact ⟨a + 1, nM3, by omega, by go_num, by rw [HI2.out]; exact HO6.out, by omega⟩
          · have haa : a = (upK h h.length).length := by omega
            subst haa
            have HOS3 : Hid (OrdS w3 wr u10 (finM (rdK h h.length ++ upK h h.length) (lvZ h C)) nM2 (outL h)) := Lib.hid (by
              have h9 := HOS.out
              rw [List.take_length] at h9
              exact h9)
            have HLE : Hid ((outL h).length ≤ 1000000) := Lib.hid (by
              have h1 := List.length_filter_le (incI h) (upK h h.length)
              show (rdK h h.length ++ (upK h h.length).filter (incI h)).length ≤ _
              rw [List.length_append]
              omega)
            have HSO := Lib.hid (sortord_any W.heap.size _ u10 h _ nM2 (outL h) w3 wr HOS3.out (HV.out _ KZ.out).2.2.2 HPL.out (HR.out.on KW.out) HS.out (fun x hx => (outL_mem.1 hx).1) HLE.out)
            have HKE : Hid (∀ l' : List Nat, l'.Perm (outL h) → (l'.Pairwise fun a b => ¬ keyG (fun x => (finM (rdK h h.length ++ upK h h.length) (lvZ h C) (x : Int)).getD 0) h b a) → l' = ordI h) := Lib.hid fun l' hp hs => by
              refine sort_ord HWN.out.1 HD.out hp (hs.imp_of_mem ?_)
              intro x y hx hy hxy
              have hm : ∀ z ∈ l', (finM (rdK h h.length ++ upK h h.length) (lvZ h C) ((z : Nat) : Int)).getD 0 = lvZ h C z := fun z hz => by
                have h1 := outL_mem.1 (hp.mem_iff.1 hz)
                have h2 : z ∈ rdK h h.length ++ upK h h.length := by
                  rcases inc_kind h1.2 with q | q
                  · exact List.mem_append_right _ (mem_upK.2 ⟨h1.1, q⟩)
                  · exact List.mem_append_left _ (mem_rdK.2 ⟨h1.1, q⟩)
                rw [finM_at h2]; rfl
              exact fun q => hxy ((keyG_congr (hm y hy) (hm x hx)).2 q)
            clear HOS HM HOS3 HLE hnm
            go_wp2_with fail
            refine HSO.out.mono ?_
            rintro e w9 ⟨rfl, l', hp, hps, hrd, hbl⟩
            have HRD := Lib.hid hrd
            have HLO := Lib.hid (HKE.out l' hp hps)
            have HBL := Lib.hid (KW.out.trans ((KZ.out.trans (hbl.mono (Nat.le_refl _))).mono KW.out.size))
            clear hp hps hrd hbl HSO HKE
            go_wp2
            go_ret2
            exact order_yes HZ.out HRD.out HLO.out HBL.out
  · have HZ := Lib.hid hz
    have e0 := bne_t hz
    clear hz
    go_wp2
    go_ret2
    exact order_no HZ.out KW1.out
end Go.Proofs.YtjijlhjggpibjaaGreat
