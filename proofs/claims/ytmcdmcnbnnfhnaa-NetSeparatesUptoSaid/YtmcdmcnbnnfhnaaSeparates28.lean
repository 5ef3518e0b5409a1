/-
  NetSeparates: nothing is delivered from one group to another one. Condition: what came in is of bulk at most 1048576 (the given statement's own).
-/
import Derived.Test.YtmcdmcnbnnfhnaaWg
import Derived.Test.YtmcdmcnbnnfhnaaWd
import Derived.Test.YtmcdmcnbnnfhnaaVg
namespace Go.Proofs.Ytmcdmcnbnnfhnaa.netSeparates
open Go.ChangeShapes Go.WideShapes Go.ChangeAt Go.RowKit Go.Proofs.Ytmcdmcnbnnfhnaa
set_option maxRecDepth 100000

theorem act_size : (Try.prog.info? 54).map (·.size) = some 19 := by kernel_rfl
/-- An act's cells. -/
theorem act_split {P : Nat → Prop} {w : World} {cs : List Value} {x : ActM} (h : CellsD P w cs (actD x)) : ∃ (mc : List Value) (gv : Value), cs = .int .i64 x.kind :: .int .i64 x.a.n :: .int .i64 x.b.n :: (mc ++ [gv]) ∧ mc.length = 15 ∧ CellsD P w mc (msgD x.m) ∧ ReadsD P w gv (groupsD x.gs) := by
  obtain ⟨v0, cs, rfl, r0, ha⟩ := h.cons
  clear h
  obtain ⟨v1, cs, rfl, r1, hb⟩ := ha.cons
  clear ha
  obtain ⟨v2, cs, rfl, r2, h⟩ := hb.cons
  clear hb
  have e0 := r0.i
  have e1 := r1.i
  have e2 := r2.i
  subst e0 e1 e2
  have hl : cs.length = 16 := h.1
  refine ⟨cs.take 15, cs[15], ?_, by rw [List.length_take, hl]; rfl, ⟨by rw [List.length_take, hl]; rfl, fun i u d h1 h2 => ?_⟩, ?_⟩
  · congr 3
    have h3 := List.take_append_drop 15 cs
    rw [List.drop_eq_getElem_cons (by omega), List.drop_eq_nil_of_le (by omega)] at h3
    exact h3.symm
  · have hi : i < 15 := by have := (List.getElem?_eq_some_iff.1 h2).1; exact this
    rw [List.getElem?_take, if_pos hi] at h1
    exact h.2 i u d h1 (by
      show (msgD x.m ++ [groupsD x.gs])[i]? = some d
      rw [List.getElem?_append_left (show i < (msgD x.m).length from hi)]; exact h2)
  · exact h.2 15 _ _ (List.getElem?_eq_getElem (by omega)) rfl
theorem act_range {w : World} {b : Nat} {k a c : Value} {mc : List Value} {gv : Value} {t : TypeId} (h : Blk w b t (k :: a :: c :: (mc ++ [gv])).toArray) : w.rangeAt b 3 mc := fun q u hu => by
  have hq := (List.getElem?_eq_some_iff.1 hu).1
  rw [h.cell, List.getElem?_toArray, show 3 + q = q + 1 + 1 + 1 by omega, List.getElem?_cons_succ, List.getElem?_cons_succ, List.getElem?_cons_succ, List.getElem?_append_left hq]
  exact hu
theorem act_cells {w : World} {b : Nat} {k a c : Value} {mc : List Value} {gv : Value} {t : TypeId} (h : Blk w b t (k :: a :: c :: (mc ++ [gv])).toArray) : w.cell? ⟨b, 0, none⟩ = some k ∧ w.cell? ⟨b, 1, none⟩ = some a ∧ w.cell? ⟨b, 2, none⟩ = some c := ⟨h.cell 0, h.cell 1, h.cell 2⟩
theorem keys_nil {ms : Int → Option MsgM} {L : List Int} (h : KeysOf ms L) (hn : ∀ x, (ms x).isSome = true → False) : L = [] := by
  cases L with
  | nil => rfl
  | cons x r => exact (hn x ((h.2 x).1 (by simp)).2).elim
theorem conn_none {a b : Int} (h : procB a = true ∧ procB b = true) : connB none a b = true := by unfold connB; rw [h.1, h.2]; rfl
theorem filter_all {s : NetS} {L : List Int} (hk : KeysOf s.ms L) (hg : s.grp = none) (hp : ∀ x m, s.ms x = some m → procB m.frm = true ∧ procB m.to = true) : L.filter (goB s) = L := by
  rw [List.filter_eq_self]
  intro x hx
  obtain ⟨m, hm⟩ := Option.isSome_iff_exists.1 ((hk.2 x).1 hx).2
  unfold goB
  rw [hm, hg]
  exact conn_none (hp x m hm)
/-- k messages of L are delivered. -/
structure DelI (s0 s : NetS) (L : List Int) (k : Nat) : Prop where
  rest : ∀ j (hj : j < L.length), k ≤ j → s.ms L[j] = s0.ms L[j]
  only : ∀ x, (s.ms x).isSome = true → ∃ j, ∃ hj : j < L.length, k ≤ j ∧ L[j] = x
  grp : s.grp = none
  t0 : 0 ≤ s.taken
  t1 : s.taken ≤ s0.taken + k
  cnt : s.cnt ≤ s0.cnt
theorem DelI.start {s : NetS} {L : List Int} (hk : KeysOf s.ms L) (hI : ∀ x, (s.ms x).isSome = true → I64 x) (hg : s.grp = none) (ht : 0 ≤ s.taken) : DelI s s L 0 :=
  ⟨fun _ _ _ => rfl, fun x hx => by
    obtain ⟨j, hj, e⟩ := List.getElem_of_mem ((hk.2 x).2 ⟨hI x hx, hx⟩)
    exact ⟨j, hj, Nat.zero_le _, e⟩, hg, ht, by omega, Nat.le_refl _⟩
theorem DelI.step {s0 s : NetS} {L : List Int} {k : Nat} (h : DelI s0 s L k) (hs : L.Pairwise (· < ·)) (hk : k < L.length) : DelI s0 { s with cnt := s.cnt - 1, ms := updM s.ms L[k] none, taken := s.taken + 1 } L (k + 1) := by
  have ht0 := h.t0
  have ht1 := h.t1
  have hc := h.cnt
  refine ⟨fun j hj hkj => ?_, fun x hx => ?_, h.grp, by simp only; omega, by simp only; omega, by simp only; omega⟩
  · have hne : L[j] ≠ L[k] := by
      have := List.pairwise_iff_getElem.1 hs k j hk hj (by omega)
      omega
    simp only
    rw [updM_ne _ _ hne]
    exact h.rest j hj (by omega)
  · obtain ⟨m, hm⟩ := Option.isSome_iff_exists.1 hx
    have h1 := upd_none hm
    obtain ⟨j, hj, h2, h3⟩ := h.only x (by rw [h1]; rfl)
    refine ⟨j, hj, ?_, h3⟩
    by_cases e : j = k
    · subst e
      subst h3
      simp only at hm
      rw [updM_self] at hm
      cases hm
    · omega
set_option maxHeartbeats 16000000 in
theorem walk (gv av : Value) (gs : List (List GI)) (acts : List ActM) (W : World) (hg0 : ReadsD (fun _ => True) W gv (groupsD gs)) (ha0 : ReadsD (fun _ => True) W av (actsD acts)) : Calls Try.prog 6 #[gv, av] W (BoolMade W true) := by
  have HG := Lib.hid (show ReadsD (fun k => k < W.heap.size) W gv (groupsD gs) from hg0.lt.mono fun k h _ => h.2)
  have HA := Lib.hid (show ReadsD (fun k => k < W.heap.size) W av (actsD acts) from ha0.lt.mono fun k h _ => h.2)
  obtain ⟨ao, cap, rfl, hl, hm, -, hL⟩ := ReadsD.slcM (f := actD) ha0
  unfold maxLen at hm
  clear hg0 ha0
  have HF : Hid (∀ e w', e = .returned (.bool true) ∧ Below W.heap.size W w' → BoolMade W true e w') := Lib.hid fun _ _ h => h
  generalize hQ : BoolMade W true = Q at *
  clear hQ
  have HAW := Lib.hid (awake_any W)
  go_enter Try.func6, Try.ntmps6
  go_wp2_with fail
  refine HAW.out.mono ?_
  rintro e w1 ⟨rfl, hb1⟩
  have HB1 := Lib.hid hb1
  clear hb1 HAW
  go_wp2_with fail
  refine (new_yes 100 w1 (by unfold okL; omega)).mono ?_
  rintro e w2 ⟨n, b, rfl, hn, hb, hnl, hbl⟩
  have HLE : Hid (W.heap.size ≤ n ∧ W.heap.size ≤ b) := Lib.hid ⟨Nat.le_trans HB1.out.size hnl, Nat.le_trans HB1.out.size hbl⟩
  have HN2 : Hid (NetAt (fun k => W.heap.size ≤ k) n b (.map none) (newS 100) w2) := Lib.hid (hn.mono fun k hk _ => by have := HLE.out; rcases hk with rfl | rfl; exact this.1; exact this.2)
  have HB2 := Lib.hid (HB1.out.trans (hb.mono HB1.out.size))
  clear hn hb hnl hbl HB1
  have HCL := Lib.hid (partition_any gv gs HN2.out (HG.out.keep HB2.out.size fun k hk _ => HB2.out.block k hk) (fun k hk => Nat.le_trans HB2.out.size hk))
  go_wp2_with fail
  refine HCL.out.mono ?_
  rintro e w3 (⟨hpn, rfl, hn3, hk3⟩ | ⟨f, gv2, hpn, rfl, hn3, hk3⟩)
  · have HB3 : Hid (Below W.heap.size W w3) := Lib.hid (HB2.out.trans (hk3.below HB2.out.size fun k hk e => by have := HLE.out; omega))
    clear hn3 hk3 hpn HCL
    go_wp2_with fail
    exact HF.out _ _ ⟨rfl, HB3.out⟩
  have HPN := Lib.hid hpn
  have HI3 : Hid (InvS 100 { newS 100 with grp := some f } 0 ∧ NetAt (fun k => W.heap.size ≤ k) n b gv2 { newS 100 with grp := some f } w3 ∧ Below W.heap.size W w3) := Lib.hid ⟨(InvS.new 100).grp _, hn3, HB2.out.trans (hk3.below HB2.out.size fun k hk e => by have := HLE.out; omega)⟩
  clear hn3 hk3 hpn HCL HN2 HB2
  go_wp2
  go_loopg [7] acts.length (fun mm i wr => ∃ k : Nat, mm + k = acts.length ∧ i = .int .i64 k ∧ ∃ s, InvS 100 s k ∧ s.grp = some f ∧ NetAt (fun k => W.heap.size ≤ k) n b gv2 s wr ∧ Below W.heap.size W wr)
  case atStart => exact ⟨0, by omega, rfl, _, HI3.out.1, rfl, HI3.out.2.1, HI3.out.2.2⟩
  case round =>
    rename World => w4
    obtain ⟨k, hmk, rfl, s, hinv, hgrp, hnet, hbel⟩ := hrel
    have HM := Lib.hid hmk
    have HINV := Lib.hid hinv
    have HGRP := Lib.hid hgrp
    have HN4 := Lib.hid hnet
    have HB4 := Lib.hid hbel
    have hk0 : (0 : Int) ≤ (k : Int) := by omega
    have hk1 : k ≤ acts.length := by omega
    have HKL : Hid (k ≤ 1048576) := Lib.hid (by omega)
    clear hmk hinv hgrp hnet hbel HI3
    by_cases hlt : k < acts.length ∧ k < 60
    · have hki : (k : Int) < acts.length := by omega
      have hk60 : (k : Int) < 60 := by omega
      have HLT := Lib.hid hlt.1
      obtain ⟨b1, o1, c1, cs1, e1, -, -, hn1, -, g1, q1⟩ := ReadsD.item (f := actD) (HA.out.keep HB4.out.size fun k hk _ => HB4.out.block k hk) hlt.1
      injection e1 with e1 e2 e3
      subst e1
      clear e2 e3
      generalize acts[k] = x at *
      clear hlt
      have HQ1 := Lib.hid q1
      have HRG := Lib.hid (show w4.rangeAt b1 (o1 + k * 19) cs1 from g1 w4 (Below.refl _ _))
      have HONE := Lib.hid (CellsD.all q1)
      have HN19 := Lib.hid hn1
      have HS : Hid (Blk (w4.alloc (.cells #[.int .i64 0, .int .i64 0, .int .i64 0, .int .i64 0, .int .i64 0, .int .i64 0, .int .i64 0, .int .i64 0, .int .i64 0, .slice none 0 0, .slice none 0 0, .slice none 0 0, .slice none 0 0, .slice none 0 0, .slice none 0 0, .slice none 0 0, .int .i64 0, .slice none 0 0, .slice none 0 0] 54)) w4.heap.size 54 #[.int .i64 0, .int .i64 0, .int .i64 0, .int .i64 0, .int .i64 0, .int .i64 0, .int .i64 0, .int .i64 0, .int .i64 0, .slice none 0 0, .slice none 0 0, .slice none 0 0, .slice none 0 0, .slice none 0 0, .slice none 0 0, .slice none 0 0, .int .i64 0, .slice none 0 0, .slice none 0 0]) := Lib.hid (Blk.new w4 _ _)
      clear g1 q1 hn1
      obtain ⟨G, hG⟩ : ∃ G, G = gk := ⟨_, rfl⟩
      subst hG
      go_upto_region 12 with (first | (refine wpList_load_mid rfl 54 (.tmp 43) rfl b1 (o1 + k * 19) rfl cs1 _ HRG.out Try.underlying54 rfl (by rw [HN19.out]; kernel_rfl) ?_) | (refine wpList_store_box rfl 54 (.tmp 8) (.tmp 44) rfl w4.heap.size 54 _ cs1.toArray rfl rfl HS.out (by rw [show cs1.toArray.size = 19 from by rw [List.size_toArray, HN19.out]]; kernel_rfl) (by rw [show cs1.toArray.size = 19 from by rw [List.size_toArray, HN19.out]]; rfl) HONE.out ?_; intro w5 hB5 hk5))
      have H45 : Hid (Below w4.heap.size w4 w5) := Lib.hid (((Kept.of ((Below.refl w4.heap.size w4).alloc (Nat.le_refl _) (.cells #[.int .i64 0, .int .i64 0, .int .i64 0, .int .i64 0, .int .i64 0, .int .i64 0, .int .i64 0, .int .i64 0, .int .i64 0, .slice none 0 0, .slice none 0 0, .slice none 0 0, .slice none 0 0, .slice none 0 0, .slice none 0 0, .slice none 0 0, .int .i64 0, .slice none 0 0, .slice none 0 0] 54)) : Kept (fun b => b = w4.heap.size) w4 _).trans hk5).below (Nat.le_refl _) fun k hk e => by omega)
      obtain ⟨mc, gvv, rfl, hml, hmc, -⟩ := act_split HQ1.out
      have H5 : Hid (NetAt (fun k => W.heap.size ≤ k) n b gv2 s w5 ∧ Below W.heap.size W w5 ∧ CellsD (fun k => k < W.heap.size) w5 mc (msgD x.m)) := Lib.hid ⟨HN4.out.on H45.out, HB4.out.trans (H45.out.mono HB4.out.size), hmc.on H45.out⟩
      have HBX := Lib.hid hB5
      have HML := Lib.hid hml
      clear hB5 hk5 HS HRG HONE HN19 HQ1 hml hmc H45 HN4 HB4
      generalize w4.heap.size = g8 at *
      have dk : w5.cell? ⟨g8, 0, none⟩ = some (.int .i64 x.kind) := (act_cells HBX.out).1
      have da : w5.cell? ⟨g8, 1, none⟩ = some (.int .i64 x.a.n) := (act_cells HBX.out).2.1
      have HAI := Lib.hid x.a.h
      have HNL : Hid (W.heap.size ≤ n ∧ W.heap.size ≤ b ∧ W.heap.size ≤ w5.heap.size) := Lib.hid ⟨HLE.out.1, HLE.out.2, H5.out.2.1.size⟩
      by_cases k1 : x.kind = 1
      · have n1 : (x.kind == 1) = true := beq_t k1
        clear k1
        have HCL := Lib.hid (send_any x.m mc H5.out.1 (H5.out.2.2.mono fun k hk _ => by have := HNL.out; omega) (fun k hk => Nat.le_trans HNL.out.2.2 hk) HINV.out.l0 (by have := HINV.out.l1; have := HKL.out; omega) HINV.out.a0 (by have := HINV.out.a1; have := HKL.out; omega) (by have := HINV.out.cnt; have := HKL.out; omega) HINV.out.free)
        go_wp2_with (refine wpList_load_mid rfl 39 (.tmp 50) rfl g8 3 rfl mc _ (act_range HBX.out) Try.underlying39 rfl (by rw [HML.out]; kernel_rfl) ?_)
        refine HCL.out.mono ?_
        rintro e w6 ⟨rfl, hn6, hk6⟩
        have H6 : Hid (InvS 100 (sendR s x.m).2.2 (k + 1) ∧ (sendR s x.m).2.2.grp = some f ∧ NetAt (fun k => W.heap.size ≤ k) n b gv2 (sendR s x.m).2.2 w6 ∧ Below W.heap.size W w6) := Lib.hid ⟨HINV.out.send x.m, by rw [← HGRP.out]; unfold sendR; split; split; rfl; rfl; rfl, hn6, H5.out.2.1.trans (hk6.below H5.out.2.1.size fun k hk e => by have := HNL.out; omega)⟩
        clear hn6 hk6 HCL
        go_wp2_with fail
        go_roundg (acts.length - (k + 1))
        case measure => have := HM.out; have := HLT.out; omega
        case rel => exact ⟨k + 1, by have := HLT.out; omega, by go_num, _, H6.out.1, H6.out.2.1, H6.out.2.2.1, H6.out.2.2.2⟩
      have n1 : (x.kind == 1) = false := beq_f k1
      by_cases k2 : x.kind = 2
      · have n2 : (x.kind == 2) = true := beq_t k2
        clear k1 k2
        have HCL := Lib.hid (deliver_any x.a.n HAI.out H5.out.1 HINV.out.c0 (by have := HINV.out.c1; have := HKL.out; omega))
        have HPOS := Lib.hid (fun m hm => H5.out.1.pos HAI.out (m := m) hm)
        have HDI : Hid (InvS 100 (delR s x.a.n).2.2 (k + 1) ∧ (delR s x.a.n).2.2.grp = some f) := Lib.hid ⟨HINV.out.del x.a.n HPOS.out, by rw [← HGRP.out]; unfold delR; split; rfl; split; rfl; rfl⟩
        have HTG : Hid ((delR s x.a.n).2.1 = 0 → togB gs (delR s x.a.n).1.frm (delR s x.a.n).1.to = true) := Lib.hid (by
          have hp := HPN.out
          have hgr := HGRP.out
          unfold delR
          split
          · intro h; cases h
          · rename_i m hm
            by_cases hc : connB s.grp m.frm m.to = true
            · simp only [if_pos hc]
              intro _
              rw [hgr] at hc
              exact conn_tog hp hc
            · simp only [if_neg hc]
              intro h; cases h)
        generalize (delR s x.a.n).1 = dm at *
        generalize (delR s x.a.n).2.1 = dr at *
        generalize (delR s x.a.n).2.2 = ds at *
        go_wp2_with fail
        refine HCL.out.mono ?_
        rintro e w6 ⟨cs, rfl, hn6, hk6, hc6⟩
        have H6 : Hid (NetAt (fun k => W.heap.size ≤ k) n b gv2 ds w6 ∧ Below W.heap.size W w6 ∧ cs.length = 15) := Lib.hid ⟨hn6, H5.out.2.1.trans (hk6.below H5.out.2.1.size fun k hk e => by have := HNL.out; omega), msg_len hc6⟩
        have HFT := Lib.hid (msg_ft hc6)
        have HONE := Lib.hid (CellsD.all hc6)
        have HS : Hid (Blk (w6.alloc (.cells zeroC.toArray 39)) w6.heap.size 39 zeroC.toArray) := Lib.hid (Blk.new w6 _ _)
        clear hn6 hk6 hc6 HCL dk da
        go_upto_region 17 with ((refine wpList_store_msg rfl (.tmp 9) (.tmp 60) rfl w6.heap.size zeroC.toArray cs rfl rfl HS.out rfl H6.out.2.2 HONE.out ?_; intro w7 hB7 hk7))
        have H67 : Hid (Below w6.heap.size w6 w7) := Lib.hid (((Kept.of ((Below.refl w6.heap.size w6).alloc (Nat.le_refl _) (.cells zeroC.toArray 39)) : Kept (fun b => b = w6.heap.size) w6 _).trans hk7).below (Nat.le_refl _) fun k hk e => by omega)
        have H7 : Hid (NetAt (fun k => W.heap.size ≤ k) n b gv2 ds w7 ∧ Below W.heap.size W w7 ∧ Blk w7 w6.heap.size 39 cs.toArray) := Lib.hid ⟨H6.out.1.on H67.out, H6.out.2.1.trans (H67.out.mono H6.out.2.1.size), hB7⟩
        clear hB7 hk7 HS H67 H6 HONE
        have dm1 : w7.cell? ⟨w6.heap.size, 1, none⟩ = some (.int .i64 dm.frm) := by rw [H7.out.2.2.cell, List.getElem?_toArray]; exact HFT.out.1
        have dm2 : w7.cell? ⟨w6.heap.size, 2, none⟩ = some (.int .i64 dm.to) := by rw [H7.out.2.2.cell, List.getElem?_toArray]; exact HFT.out.2.1
        by_cases hdr : dr = 0
        · have nd : (dr == 0) = true := beq_t hdr
          have HCT := Lib.hid (together_any gv gs dm.frm dm.to w7 (HG.out.keep H7.out.2.1.size fun k hk _ => H7.out.2.1.block k hk) (HTG.out hdr))
          clear hdr
          go_wp2_with fail
          refine HCT.out.mono ?_
          rintro e w8 ⟨rfl, hb8⟩
          have H8 : Hid (NetAt (fun k => W.heap.size ≤ k) n b gv2 ds w8 ∧ Below W.heap.size W w8) := Lib.hid ⟨H7.out.1.on hb8, H7.out.2.1.trans (hb8.mono H7.out.2.1.size)⟩
          clear hb8 HCT dm1 dm2
          go_wp2_with fail
          go_roundg (acts.length - (k + 1))
          case measure => have := HM.out; have := HLT.out; omega
          case rel => exact ⟨k + 1, by have := HLT.out; omega, by go_num, _, HDI.out.1, HDI.out.2, H8.out.1, H8.out.2⟩
        · have nd : (dr == 0) = false := beq_f hdr
          clear hdr
          go_wp2_with fail
          go_roundg (acts.length - (k + 1))
          case measure => have := HM.out; have := HLT.out; omega
          case rel => exact ⟨k + 1, by have := HLT.out; omega, by go_num, _, HDI.out.1, HDI.out.2, H7.out.1, H7.out.2.1⟩
      have n2 : (x.kind == 2) = false := beq_f k2
      by_cases k3 : x.kind = 3
      · have n3 : (x.kind == 3) = true := beq_t k3
        clear k1 k2 k3
        have HCL := Lib.hid (drop_any x.a.n HAI.out H5.out.1 HINV.out.d0 (by have := HINV.out.d1; have := HKL.out; omega))
        go_wp2_with fail
        refine HCL.out.mono ?_
        rintro e w6 ⟨rfl, hn6, hk6⟩
        have H6 : Hid (InvS 100 (dropR s x.a.n).2 (k + 1) ∧ (dropR s x.a.n).2.grp = some f ∧ NetAt (fun k => W.heap.size ≤ k) n b gv2 (dropR s x.a.n).2 w6 ∧ Below W.heap.size W w6) := Lib.hid ⟨HINV.out.drop x.a.n (fun m hm => H5.out.1.pos HAI.out hm), by rw [← HGRP.out]; unfold dropR; split; rfl; rfl, hn6, H5.out.2.1.trans (hk6.below H5.out.2.1.size fun k hk e => by have := HNL.out; omega)⟩
        clear hn6 hk6 HCL
        go_wp2_with fail
        go_roundg (acts.length - (k + 1))
        case measure => have := HM.out; have := HLT.out; omega
        case rel => exact ⟨k + 1, by have := HLT.out; omega, by go_num, _, H6.out.1, H6.out.2.1, H6.out.2.2.1, H6.out.2.2.2⟩
      have n3 : (x.kind == 3) = false := beq_f k3
      by_cases k4 : x.kind = 4
      · have n4 : (x.kind == 4) = true := beq_t k4
        clear k1 k2 k3 k4
        have HCL := Lib.hid (duplicate_any x.a.n HAI.out H5.out.1 (fun k hk => Nat.le_trans HNL.out.2.2 hk) HINV.out.l0 (by have := HINV.out.l1; have := HKL.out; omega) HINV.out.b0 (by have := HINV.out.b1; have := HKL.out; omega) (by have := HINV.out.cnt; have := HKL.out; omega) HINV.out.free)
        go_wp2_with fail
        refine HCL.out.mono ?_
        rintro e w6 ⟨rfl, hn6, hk6⟩
        have H6 : Hid (InvS 100 (dupR s x.a.n).2.2 (k + 1) ∧ (dupR s x.a.n).2.2.grp = some f ∧ NetAt (fun k => W.heap.size ≤ k) n b gv2 (dupR s x.a.n).2.2 w6 ∧ Below W.heap.size W w6) := Lib.hid ⟨HINV.out.dup x.a.n, by rw [← HGRP.out]; unfold dupR; split; rfl; split; rfl; rfl, hn6, H5.out.2.1.trans (hk6.below H5.out.2.1.size fun k hk e => by have := HNL.out; omega)⟩
        clear hn6 hk6 HCL
        go_wp2_with fail
        go_roundg (acts.length - (k + 1))
        case measure => have := HM.out; have := HLT.out; omega
        case rel => exact ⟨k + 1, by have := HLT.out; omega, by go_num, _, H6.out.1, H6.out.2.1, H6.out.2.2.1, H6.out.2.2.2⟩
      have n4 : (x.kind == 4) = false := beq_f k4
      clear k1 k2 k3 k4
      have HIN := Lib.hid HINV.out.next
      go_wp2_with fail
      go_roundg (acts.length - (k + 1))
      case measure => have := HM.out; have := HLT.out; omega
      case rel => exact ⟨k + 1, by have := HLT.out; omega, by go_num, _, HIN.out, HGRP.out, H5.out.1, H5.out.2.1⟩
    · have HCN : Hid (s.cnt ≤ 1000000000) := Lib.hid (by have := HINV.out.cnt; have := HKL.out; omega)
      have HCL := Lib.hid (heal_any HN4.out)
      by_cases h1 : k < acts.length
      case' pos => have hd1 : (k : Int) < acts.length := by omega
      case' pos => have hd2 : ¬ (k : Int) < 60 := by omega
      case' neg => have hd1 : ¬ (k : Int) < acts.length := by omega
      all_goals
        clear hlt h1
        go_wp2_with fail
        refine HCL.out.mono ?_
        rintro e w5 ⟨rfl, hn5, hk5⟩
        have H5 : Hid (NetAt (fun k => W.heap.size ≤ k) n b (.map none) { s with grp := none } w5 ∧ Below W.heap.size W w5) := Lib.hid ⟨hn5, HB4.out.trans (hk5.below HB4.out.size fun k hk e => by have := HLE.out; omega)⟩
        clear hn5 hk5 HCL
        have HCL := Lib.hid (pending_any H5.out.1 HCN.out)
        go_wp2_with fail
        refine HCL.out.mono ?_
        rintro e w6 ⟨lv, L, rfl, hrd, hks, hlen, hob, hb6⟩
        have HBO : Hid (∀ b0, lv.ownBlock = some b0 → ¬ (b0 = n ∨ b0 = b)) := Lib.hid fun b0 h0 => by have h1 := hob b0 h0; have h2 := H5.out.1.box.lt; have h3 := H5.out.1.blt; omega
        have HRD := Lib.hid hrd
        have HKS := Lib.hid hks
        have HLL : Hid (L.length ≤ 1000000000) := Lib.hid (Nat.le_trans hlen HCN.out)
        have H6 : Hid (NetAt (fun k => W.heap.size ≤ k) n b (.map none) { s with grp := none } w6 ∧ Below W.heap.size W w6) := Lib.hid ⟨H5.out.1.on hb6, H5.out.2.trans (hb6.mono H5.out.2.size)⟩
        clear hrd hks hlen hob hb6 HCL
        have HCL := Lib.hid (deliverable_any H6.out.1 HCN.out)
        go_wp2_with fail
        refine HCL.out.mono ?_
        rintro e w7 ⟨dv, L', rfl, hrd', hks', hb7⟩
        have HLL' := Lib.hid (KeysOf.unique hks' HKS.out)
        have HR7 : Hid (Reads vi w7 dv L ∧ Reads vi w7 lv L) := Lib.hid ⟨by rw [filter_all hks' rfl HINV.out.prc, HLL'.out] at hrd'; exact hrd', HRD.out.keep hb7⟩
        have H7 : Hid (NetAt (fun k => W.heap.size ≤ k) n b (.map none) { s with grp := none } w7 ∧ Below W.heap.size W w7) := Lib.hid ⟨H6.out.1.on hb7, H6.out.2.trans (hb7.mono H6.out.2.size)⟩
        clear hrd' hks' hb7 HCL
        have HCL := Lib.hid (same_ints lv dv L w7 HR7.out.2 HR7.out.1 HLL.out)
        go_wp2_with fail
        refine HCL.out.mono ?_
        rintro e w8 ⟨rfl, hb8⟩
        have HR8 : Hid (Reads vi w8 lv L) := Lib.hid (HR7.out.2.keep hb8)
        have H8 : Hid (NetAt (fun k => W.heap.size ≤ k) n b (.map none) { s with grp := none } w8 ∧ Below W.heap.size W w8) := Lib.hid ⟨H7.out.1.on hb8, H7.out.2.trans (hb8.mono H7.out.2.size)⟩
        clear hb8 HCL HR7 HRD H7 H6 H5
        obtain ⟨lo, lc, rfl, hll, hlm, -, -⟩ := HR8.out
        unfold maxLen at hlm
        have hl9 := HLL.out
        have HD0 : Hid (DelI { s with grp := none } { s with grp := none } L 0) := Lib.hid (DelI.start HKS.out (fun x hx => by have h1 := HINV.out.key x hx; have h2 := HINV.out.l1; have h3 := HKL.out; unfold I64; omega) rfl HINV.out.c0)
        have HTK : Hid (s.taken ≤ 1048576) := Lib.hid (by have := HINV.out.c1; have := HKL.out; omega)
        have HPRC := Lib.hid HINV.out.prc
        go_wp2
        go_loopg [12] L.length (fun mm i wr => ∃ q : Nat, mm + q = L.length ∧ i = .int .i64 q ∧ ∃ s', DelI { s with grp := none } s' L q ∧ NetAt (fun k => W.heap.size ≤ k) n b (.map none) s' wr ∧ Below W.heap.size W wr ∧ Reads vi wr (.slice lo L.length lc) L)
        case atStart => exact ⟨0, by omega, rfl, _, HD0.out, H8.out.1, H8.out.2, HR8.out⟩
        case round =>
          rename World => w9
          obtain ⟨q, hmq, rfl, s', hdi, hnet, hbel, hrd⟩ := hrel
          have HM2 := Lib.hid hmq
          have HDI := Lib.hid hdi
          have HN9 := Lib.hid (And.intro hnet hbel)
          have HR9 := Lib.hid hrd
          have hq0 : (0 : Int) ≤ (q : Int) := by omega
          have hq1 : q ≤ L.length := by omega
          clear hmq hdi hnet hbel hrd
          by_cases hlq : q < L.length
          · have hqi : (q : Int) < L.length := by omega
            obtain ⟨b2, o2, c2, hv, hb2, hcell⟩ := int_at HR9.out hlq
            injection hv with e1 e2 e3
            subst e1
            clear e2 e3
            have HME := Lib.hid ((HKS.out.2 L[q]).1 (List.getElem_mem hlq))
            have HST := Lib.hid (HDI.out.step HKS.out.1 hlq)
            have HRS := Lib.hid (HDI.out.rest q hlq (Nat.le_refl _))
            have HLQ := Lib.hid hlq
            unfold vi at hcell
            generalize L[q] = y at *
            clear hlq hb2
            obtain ⟨m, hms⟩ := Option.isSome_iff_exists.1 HME.out.2
            have HMS : Hid (s'.ms y = some m ∧ procB m.frm = true ∧ procB m.to = true) := Lib.hid ⟨by rw [HRS.out]; exact hms, HPRC.out y m hms⟩
            have HDR : Hid (delR s' y = (m, 0, { s' with cnt := s'.cnt - 1, ms := updM s'.ms y none, taken := s'.taken + 1 })) := Lib.hid (by unfold delR; rw [HMS.out.1]; simp only; rw [if_pos (by rw [HDI.out.grp]; exact conn_none HMS.out.2)])
            have HCL := Lib.hid (deliver_any y HME.out.1 HN9.out.1 HDI.out.t0 (by have h1 := HDI.out.t1; have h2 := HTK.out; have h3 := HLL.out; have h4 := HLQ.out; simp only at h1; omega))
            rw [HDR.out] at HCL
            clear hms
            obtain ⟨G, hG⟩ : ∃ G, G = gk := ⟨_, rfl⟩
            subst hG
            go_wp2_with fail
            refine HCL.out.mono ?_
            rintro e w10 ⟨cs, rfl, hn10, hk10, hc10⟩
            have H10 : Hid (NetAt (fun k => W.heap.size ≤ k) n b (.map none) { s' with cnt := s'.cnt - 1, ms := updM s'.ms y none, taken := s'.taken + 1 } w10 ∧ Below W.heap.size W w10 ∧ cs.length = 15 ∧ Reads vi w10 (.slice (some ⟨b2, o2, none⟩) L.length lc) L) := Lib.hid ⟨hn10, HN9.out.2.trans (hk10.below HN9.out.2.size fun k hk e => by have := HLE.out; omega), msg_len hc10, hk10.reads HR9.out HBO.out⟩
            have HONE := Lib.hid (CellsD.all hc10)
            have HS : Hid (Blk (w10.alloc (.cells zeroC.toArray 39)) w10.heap.size 39 zeroC.toArray) := Lib.hid (Blk.new w10 _ _)
            clear hn10 hk10 hc10 HCL hcell
            go_upto_region 31 with ((refine wpList_store_msg rfl (.tmp 13) (.tmp 107) rfl w10.heap.size zeroC.toArray cs rfl rfl HS.out rfl H10.out.2.2.1 HONE.out ?_; intro w11 hB11 hk11))
            have H11 : Hid (Below w10.heap.size w10 w11) := Lib.hid (((Kept.of ((Below.refl w10.heap.size w10).alloc (Nat.le_refl _) (.cells zeroC.toArray 39)) : Kept (fun b => b = w10.heap.size) w10 _).trans hk11).below (Nat.le_refl _) fun k hk e => by omega)
            clear hB11 hk11 HS
            go_wp2
            go_roundg (L.length - (q + 1))
            case measure => have := HM2.out; have := HLQ.out; omega
            case rel => exact ⟨q + 1, by have := HLQ.out; omega, by go_num, _, HST.out, H10.out.1.on H11.out, H10.out.2.1.trans (H11.out.mono H10.out.2.1.size), H10.out.2.2.2.keep H11.out⟩
          · have hqi : ¬ (q : Int) < L.length := by omega
            have HNO : Hid (∀ x, (s'.ms x).isSome = true → False) := Lib.hid fun x hx => by
              obtain ⟨j, hj, h1, _⟩ := HDI.out.only x hx
              omega
            have HCL := Lib.hid (pending_any HN9.out.1 (Nat.le_trans HDI.out.cnt HCN.out))
            go_wp2_with fail
            refine HCL.out.mono ?_
            rintro e w10 ⟨pv, L2, rfl, hrd2, hks2, -, -, hb10⟩
            have hnil := keys_nil hks2 HNO.out
            subst hnil
            obtain ⟨po, pc, rfl, -⟩ := hrd2
            have H10 : Hid (Below W.heap.size W w10) := Lib.hid (HN9.out.2.trans (hb10.mono HN9.out.2.size))
            clear hks2 hb10 HCL
            go_wp2_with fail
            exact HF.out _ _ ⟨rfl, H10.out⟩

theorem contract (H : Type) (enc : TypeId × Value → H) (W : World) (base : Nat) (args : Array Value) (ds gs : List (DataW H)) (before : List MemPlace)
    (hval0 : ∀ (j : Nat) t v, Try.f6.params[j]? = some t → args[j]? = some v → Value.okWide Try.prog W .any base t v)
    (hW : DataW.Whole enc Try.prog Try.f6.params.toList Rows.netSeparatesSpec.vars false W args.toList ds gs before) (hk : Rows.uptoSmall H (ds ++ gs) = true) :
    Calls Try.prog 6 args W fun e W' => ∃ v, e = .returned v ∧ Rows.netSeparatesSpec.post enc Try.prog Try.f6 false true false false W args v W' := by
  have hval : ∀ (j : Nat) t v, Try.f6.params[j]? = some t → args[j]? = some v → Value.okWide Try.prog W .any base t v := hval0
  have hW' := hW
  obtain ⟨p, q, hA0, hV, rfl, hfz, hnd⟩ := hW
  have hA : DataW.TrodAll enc Try.prog W 0 (fun _ => true) true Try.f6.params.toList args.toList ds p := hA0
  rw [Try.params6] at hA hval
  have hfp := free_left hfz
  obtain ⟨v0, vs0, d0, ds0, p0, q0, hargs, rfl, rfl, t0, r0⟩ := trodAll_cons hA
  obtain ⟨v1, vs1, d1, ds1, p1, q1, rfl, rfl, rfl, t1, r1⟩ := trodAll_cons r0
  obtain ⟨rfl, rfl, rfl⟩ := trodAll_nil r1
  obtain rfl : args = #[v0, v1] := by cases args; simp_all
  obtain ⟨rfl, rfl⟩ := trodVars_none hV
  have hbk : Rows.uptoBulkAll [d0, d1] ≤ 1048576 := by simpa only [List.append_nil] using (of_decide_eq_true hk : Rows.uptoBulkAll _ ≤ 1048576)
  simp only [Rows.uptoBulkAll] at hbk
  clear hk
  obtain ⟨a0, l0, k0, rfl⟩ := okWide_slice Try.underlying52 (hval 0 52 v0 rfl rfl)
  obtain ⟨u0, t0⟩ := t0
  simp only [Value.cells] at t0
  obtain ⟨x0, h0⟩ := ls_groups t0 (free_left hfp) (by show Rows.uptoBulk d0 ≤ 1048576; omega)
  obtain ⟨a1, l1, k1, rfl⟩ := okWide_slice Try.underlying49 (hval 1 49 v1 rfl rfl)
  obtain ⟨u1, t1⟩ := t1
  simp only [Value.cells] at t1
  obtain ⟨x1, h1⟩ := ls_act t1 (free_left (free_right (hfp))) (by show Rows.uptoBulk d1 ≤ 1048576; omega)
  refine (walk _ _ x0 x1 W h0 h1).mono fun e W' ⟨he, hb⟩ => ?_
  subst he
  exact ⟨_, rfl, law_post laidOut rfl (fun _ _ => rfl) (by kernel_rfl) Try.underlying4 (by rw [Try.params6]; exact fun t ht => by simp at ht; rcases ht with rfl | rfl; all_goals exact ⟨by kernel_rfl, of_decide_eq_true (by kernel_rfl)⟩) hW' hb⟩

theorem lifted (os : Os) (started : os.Started) (H : Type) (enc : TypeId × Value → H) (F : Stop.Interp) :
    ReturnsInHanded {} Try.checked os 6 .any ((Rows.OpenSpec.upto Rows.netSeparatesSpec).pre6 enc Try.prog Try.f6 Rows.netSeparatesUptoRow.domain false) (((Rows.OpenSpec.upto Rows.netSeparatesSpec).at F).post enc Try.prog Try.f6 false true false false) := by
  refine returnsInHanded_of_cond (C := Try.checked) (s := (Rows.OpenSpec.upto Rows.netSeparatesSpec)) (k := Rows.uptoSmall) rfl own started (by kernel_rfl) Try.func6
    (OpenSpec.witness (enc := enc) (C := Try.checked) (s := (Rows.OpenSpec.upto Rows.netSeparatesSpec)) (k := Rows.uptoSmall) rfl false ⟨#[], #[.slice none 0 0, .slice none 0 0], []⟩ 8 (by kernel_rfl) (by kernel_rfl) (by kernel_rfl)
      (x := ([.nil, .nil], [], [])) (by kernel_rfl) rfl (by kernel_rfl)) ?_
  intro W base args ds gs before hval hW _ hk _
  exact contract H enc W base args ds gs before hval hW hk

theorem proved : Rows.NetSeparatesUptoSaid :=
  OpenClaim.holds_of_cond 6 Try.f6 rfl rfl rfl rfl rfl rfl rfl ⟨rfl, rfl, rfl, rfl, rfl⟩ rfl rfl rfl rfl rfl (by kernel_rfl) Try.func6 (by kernel_rfl)
    (of_decide_eq_true (by kernel_rfl)) (by unfold Func.isWrapper; first | (rw [if_pos (by decide +kernel)]; kernel_rfl) | (rw [if_neg (by decide +kernel)]; exact ⟨rfl, rfl⟩))
    (fun os started H enc _ F => lifted os started H enc F)
end Go.Proofs.Ytmcdmcnbnnfhnaa.netSeparates
