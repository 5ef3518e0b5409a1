/-
  Chapter 54: history.Check.
-/
import Derived.Test.YtjijlhjggpibjaaGreatHb
namespace Go.Proofs.YtjijlhjggpibjaaGreat
open Go.RowKit

/-- As small as the statements ask. -/
def SmallH (h : List Opn) : Prop := h.length ≤ 1000 ∧ ∀ o ∈ h, (addO o).length ≤ 1000 ∧ (seeO o).length ≤ 1000 ∧ (∀ s ∈ addO o, s.length ≤ maxLen) ∧ ∀ s ∈ seeO o, s.length ≤ maxLen
theorem addedL_snoc {h : List Opn} {k : Nat} (hk : k < h.length) : addedL h (k + 1) = addedL h k ++ addO h[k] := by
  unfold addedL
  rw [List.take_succ_eq_append_getElem hk, List.flatMap_append]; simp
theorem addedL_len {h : List Opn} (hs : SmallH h) : ∀ k, (addedL h k).length ≤ 1000 * k
  | 0 => by simp [addedL]
  | k + 1 => by
    by_cases hk : k < h.length
    · rw [addedL_snoc hk, List.length_append]
      have := addedL_len hs k
      have := (hs.2 _ (List.getElem_mem hk)).1
      omega
    · have := addedL_len hs k
      unfold addedL at this ⊢
      rw [List.take_of_length_le (by omega)] at this ⊢
      omega
theorem errAt_eq {h : List Opn} {k : Nat} {x : Opn} (hx : h[k]? = some x) : errAt h k = if formB x = false then 1 else if ∃ y ∈ h.take k, cliO y = cliO x ∧ precB y x = false then 9 else if ∃ s ∈ addO x, s ∈ addedL h k then 3 else 0 := by
  unfold errAt
  rw [hx]
def ChkMade (w : World) (h : List Opn) (e : Ending) (w' : World) : Prop := e = .returned (.tuple #[.int .i64 ((chkL h).1 : Nat), .int .i64 (chkL h).2]) ∧ Below w.heap.size w w'
theorem chk_err {w w' : World} {h : List Opn} {k : Nat} {c : Int} (hk : k < h.length) (hp : ∀ j, j < k → errAt h j = 0) (he : errAt h k = c) (hc : ¬ c = 0) (hb : Below w.heap.size w w') :
    ChkMade w h (.returned (.tuple #[.int .i64 (k : Nat), .int .i64 c])) w' := by
  refine ⟨?_, hb⟩
  rw [chk_at hk hp (by rw [he]; exact hc), he]
theorem chk_fine {w w' : World} {h : List Opn} (hp : ∀ j, j < h.length → errAt h j = 0) (hb : Below w.heap.size w w') : ChkMade w h (.returned (.tuple #[.int .i64 0, .int .i64 0])) w' := by
  refine ⟨?_, hb⟩
  rw [chk_ok hp]; rfl
theorem op_info : (Tryz.prog.info? 39).map (·.size) = some 6 := by kernel_rfl
theorem str_at {w : World} {v : Value} {xs : List Str} (h : Reads vs w v xs) {k : Nat} (hk : k < xs.length) : ∃ b off cap, v = .slice (some ⟨b, off, none⟩) xs.length cap ∧ b < w.heap.size ∧ w.cell? ⟨b, off + k, none⟩ = some (vs xs[k]) := by
  obtain ⟨ao, cap, rfl, _, _, _, hx⟩ := h
  obtain ⟨b, off, rfl, hb, hc⟩ := hx (by rintro rfl; simp at hk)
  exact ⟨b, off, cap, rfl, hb, hc k hk⟩

/-- An element of a history, all of it told. -/
theorem ReadsO.at2 {w : World} {v : Value} {L : List Opn} (h : ReadsO w v L) {k : Nat} (hk : k < L.length) : ∃ b off cap a4 c4 a5 c5, v = .slice (some ⟨b, off, none⟩) L.length cap ∧ L.length ≤ cap ∧ cap ≤ 2 ^ 63 - 1 ∧ c4 ≤ 2 ^ 63 - 1 ∧ c5 ≤ 2 ^ 63 - 1 ∧ (addO L[k]).length ≤ c4 ∧ (seeO L[k]).length ≤ c5 ∧
    (∀ wq, Below w.heap.size w wq → wq.cell? ⟨b, off + k * 6, none⟩ = some (.int .i64 (cliO L[k])) ∧ wq.cell? ⟨b, off + k * 6 + 1, none⟩ = some (.int .i64 (kindO L[k])) ∧ wq.cell? ⟨b, off + k * 6 + 2, none⟩ = some (.int .i64 (begO L[k])) ∧
      wq.cell? ⟨b, off + k * 6 + 3, none⟩ = some (.int .i64 (endO L[k])) ∧ wq.cell? ⟨b, off + k * 6 + 4, none⟩ = some (.slice a4 (addO L[k]).length c4) ∧ wq.cell? ⟨b, off + k * 6 + 5, none⟩ = some (.slice a5 (seeO L[k]).length c5)) ∧
    Reads vs w (.slice a4 (addO L[k]).length c4) (addO L[k]) ∧ Reads vs w (.slice a5 (seeO L[k]).length c5) (seeO L[k]) := by
  obtain ⟨b, off, cap, va, vz, hv, h1, h2, hcell, r1, r2⟩ := h.at_ hk
  have r1' := r1
  have r2' := r2
  obtain ⟨a4, c4, rfl, h4, m4, _, _⟩ := r1
  obtain ⟨a5, c5, rfl, h5, m5, _, _⟩ := r2
  unfold maxLen at h2 m4 m5
  exact ⟨b, off, cap, a4, c4, a5, c5, hv, h1, h2, m4, m5, h4, h5, hcell, r1', r2'⟩
theorem below_map {W wr w' : World} (hb : Below W.heap.size W wr) (hg : wr.grownBy w' (some W.heap.size)) : Below W.heap.size W w' :=
  ⟨hg.os.trans hb.os, hg.tape.trans hb.tape, hg.output.trans hb.output, Nat.le_trans hb.size hg.size, fun k hk => by
    have h4 := hb.size
    rw [hg.block k (by omega) (fun e => by injection e with e; omega)]
    exact hb.block k hk⟩

set_option maxRecDepth 100000 in
set_option maxHeartbeats 8000000 in
theorem check_any (v : Value) (h : List Opn) (W : World) (hr : ReadsO W v h) (hs : SmallH h) : Calls Tryz.prog 26 #[v] W (ChkMade W h) := by
  have HR := Lib.hid hr
  have HS := Lib.hid hs
  have hn := hs.1
  obtain ⟨ao, cap, rfl, hl, hm, _, _⟩ := hr
  unfold maxLen at hm
  clear hs
  go_enter Tryz.func26, Tryz.ntmps26
  go_wp2_with (refine wpList_make_map rfl 47 rfl ?_)
  generalize hwm : World.alloc W _ = wm
  have HM0 : Hid (SetB wm W.heap.size 0 [] ∧ Below W.heap.size W wm) := Lib.hid (by subst hwm; exact ⟨SetB.made W, (Below.refl _ _).alloc (Nat.le_refl _) _⟩)
  clear hwm
  go_loopg [16] h.length (fun m i wr => ∃ k : Nat, m + k = h.length ∧ i = .int .i64 k ∧ (∀ j, j < k → errAt h j = 0) ∧ SetB wr W.heap.size (addedL h k).length (addedL h k) ∧ Below W.heap.size W wr)
  case atStart => exact ⟨0, by omega, rfl, fun j hj => by omega, HM0.out.1, HM0.out.2⟩
  case round =>
    obtain ⟨k, hmk, rfl, hp, hset, hbel⟩ := hrel
    have HM := Lib.hid hmk
    have HP := Lib.hid hp
    have HSET := Lib.hid hset
    have KW := Lib.hid hbel
    have hk : k ≤ h.length := by omega
    have hal := addedL_len HS.out k
    clear hmk hp hset hbel HM0
    by_cases hlt : k < h.length
    · obtain ⟨b, off, cap1, a4, c4, a5, c5, hv, _, _, hm4, hm5, hl4, hl5, hcell0, r10, r20⟩ := HR.out.at2 hlt
      have HRW := Lib.hid r10
      have hcell := fun (wq : World) (hq : Below wr.heap.size wr wq) => hcell0 wq (KW.out.trans (hq.mono KW.out.size))
      have r1 := r10.keep KW.out
      have r2 := r20.keep KW.out
      clear hcell0 r10 r20
      injection hv with e1 e2 e3
      subst e1
      have hki : (k : Int) < h.length := by omega
      have hk0 : (0 : Int) ≤ (k : Int) := by omega
      have hkc : (k : Int) ≤ cap := by omega
      have hkc2 : k ≤ cap := by omega
      have HLT := Lib.hid hlt
      have HE := Lib.hid (errAt_eq (List.getElem?_eq_getElem hlt))
      have HAS := Lib.hid (addedL_snoc hlt)
      have hsm := HS.out.2 _ (List.getElem_mem hlt)
      have hla := hsm.1
      have HSM := Lib.hid hsm.2.2.1
      have HN := Lib.hid (And.intro hcell (And.intro r1 r2))
      clear e2 e3 hcell r1 r2 hsm
      generalize h[k] = x at *
      obtain ⟨x0, x1, x2, x3, x4, x5⟩ := HN.out.1 wr (Below.refl _ _)
      have HBX : Hid (Below wr.heap.size wr (wr.alloc (.cells #[.int .i64 (cliO x), .int .i64 (kindO x), .int .i64 (begO x), .int .i64 (endO x), .slice a4 (addO x).length c4, .slice a5 (seeO x).length c5] 39))) := Lib.hid ((Below.refl _ _).alloc (Nat.le_refl _) _)
      have HKX := Lib.hid (Blk.new wr 39 #[.int .i64 (cliO x), .int .i64 (kindO x), .int .i64 (begO x), .int .i64 (endO x), .slice a4 (addO x).length c4, .slice a5 (seeO x).length c5])
      by_cases hform : formB x = true
      · have hfc := formed_any _ x (wr.alloc (.cells #[.int .i64 (cliO x), .int .i64 (kindO x), .int .i64 (begO x), .int .i64 (endO x), .slice a4 (addO x).length c4, .slice a5 (seeO x).length c5] 39)) ⟨_, _, rfl, HN.out.2.1.keep HBX.out, HN.out.2.2.keep HBX.out⟩
        rw [hform] at hfc
        have HFC := Lib.hid hfc
        have HE2 : Hid (errAt h k = if ∃ y ∈ h.take k, cliO y = cliO x ∧ precB y x = false then 9 else if ∃ s ∈ addO x, s ∈ addedL h k then 3 else 0) := Lib.hid (by rw [HE.out, if_neg (by rw [hform]; simp)])
        clear hfc hform HE
        go_wp2_with fail
        refine HFC.out.mono ?_
        rintro e w4 ⟨rfl, hb0⟩
        have KB := Lib.hid (HKX.out.on hb0)
        have hb : Below wr.heap.size wr w4 := HBX.out.trans (hb0.mono HBX.out.size)
        replace KW := Lib.hid (KW.out.trans (hb.mono KW.out.size))
        replace HSET := Lib.hid (HSET.out.on hb)
        have HRX := Lib.hid (And.intro (HN.out.2.1.keep hb) (HN.out.2.2.keep hb))
        clear hb hb0 HFC HKX HBX HN x0 x1 x2 x3 x4 x5
        obtain ⟨c0, c1, c2, c3, c4', c5', hlt6⟩ := blk6 KB.out
        go_wp2
        obtain ⟨wb, hwb⟩ : ∃ x, x = w4 := ⟨_, rfl⟩
        rw [← hwb] at KB KW HSET HRX ⊢
        clear hwb c0 c1 c2 c3 c4' c5' hlt6
        obtain ⟨G1, hG1⟩ : ∃ G, G = gk := ⟨_, rfl⟩
        subst hG1
        go_loopg [29] k (fun m i wr => ∃ j : Nat, m + j = k ∧ i = .int .i64 j ∧ (∀ y ∈ h.take j, ¬ (cliO y = cliO x ∧ precB y x = false)) ∧ Below wb.heap.size wb wr)
        case atStart => exact ⟨0, by omega, rfl, by simp, Below.refl _ _⟩
        case round =>
          obtain ⟨j, hmj, rfl, hq, hbel⟩ := hrel
          have HM2 := Lib.hid hmj
          have HQ := Lib.hid hq
          have HBW := Lib.hid hbel
          replace KB := Lib.hid (KB.out.on hbel)
          replace KW := Lib.hid (KW.out.trans (hbel.mono KW.out.size))
          replace HSET := Lib.hid (HSET.out.on hbel)
          replace HRX := Lib.hid (And.intro (HRX.out.1.keep hbel) (HRX.out.2.keep hbel))
          obtain ⟨c0, c1, c2, c3, c4', c5', hlt6⟩ := blk6 KB.out
          have hj : j ≤ k := by omega
          clear hmj hq hbel
          by_cases hjk : j < k
          · have hjh : j < h.length := by omega
            obtain ⟨b', off', cap2, d4, k4, d5, k5, hv, _, _, n4, n5, l4, l5, hcell, s1, s2⟩ := (HR.out.on KW.out).at2 hjh
            injection hv with e1 e2 e3
            injection e1 with e1
            injection e1 with e1 e4
            subst e1 e4
            have hji : (j : Int) < k := by omega
            have hj0 : (0 : Int) ≤ (j : Int) := by omega
            have hsn : ¬ (cliO h[j] = cliO x ∧ precB h[j] x = false) → ∀ y ∈ h.take (j + 1), ¬ (cliO y = cliO x ∧ precB y x = false) := fun h1 y hy => by
              rw [List.take_succ_eq_append_getElem hjh] at hy
              rcases List.mem_append.1 hy with h2 | h2
              · exact HQ.out y h2
              · rw [List.mem_singleton.1 h2]; exact h1
            have hbad : (cliO h[j] = cliO x ∧ precB h[j] x = false) → ∃ y ∈ h.take k, cliO y = cliO x ∧ precB y x = false := fun h1 => ⟨h[j], List.mem_take_iff_getElem.2 ⟨j, by omega, rfl⟩, h1⟩
            have HSN := Lib.hid hsn
            have HBAD := Lib.hid hbad
            have HN := Lib.hid (And.intro hcell (And.intro s1 s2))
            clear e2 e3 hcell s1 s2 hsn hbad
            generalize h[j] = y at *
            obtain ⟨x0, x1, x2, x3, x4, x5⟩ := HN.out.1 wr (Below.refl _ _)
            have HBY : Hid (Below wr.heap.size wr (wr.alloc (.cells #[.int .i64 (cliO y), .int .i64 (kindO y), .int .i64 (begO y), .int .i64 (endO y), .slice d4 (addO y).length k4, .slice d5 (seeO y).length k5] 39))) := Lib.hid ((Below.refl _ _).alloc (Nat.le_refl _) _)
            have HKY := Lib.hid (Blk.new wr 39 #[.int .i64 (cliO y), .int .i64 (kindO y), .int .i64 (begO y), .int .i64 (endO y), .slice d4 (addO y).length k4, .slice d5 (seeO y).length k5])
            have hprec := prec_any _ _ y x (wr.alloc (.cells #[.int .i64 (cliO y), .int .i64 (kindO y), .int .i64 (begO y), .int .i64 (endO y), .slice d4 (addO y).length k4, .slice d5 (seeO y).length k5] 39)) ⟨_, _, rfl, HN.out.2.1.keep HBY.out, HN.out.2.2.keep HBY.out⟩ ⟨_, _, rfl, HRX.out.1.keep HBY.out, HRX.out.2.keep HBY.out⟩
            by_cases hc : cliO y = cliO x
            · have ec := beq_t hc
              have HC := Lib.hid hc
              clear hc
              by_cases hpq : precB y x = true
              · rw [hpq] at hprec
                have HPC := Lib.hid hprec
                have HPQ := Lib.hid hpq
                clear hprec hpq
                go_wp2_with fail
                refine HPC.out.mono ?_
                rintro e w6 ⟨rfl, hb0⟩
                have hb : Below wr.heap.size wr w6 := HBY.out.trans (hb0.mono HBY.out.size)
                have HB6 := Lib.hid (HBW.out.trans (hb.mono HBW.out.size))
                clear hb hb0
                go_wp2
                go_roundg (k - (j + 1))
                case measure => have := HM2.out; omega
                case rel => exact ⟨j + 1, by omega, by go_num, HSN.out (fun h => by have h2 := h.2; rw [HPQ.out] at h2; cases h2), HB6.out⟩
              · rw [Bool.eq_false_iff.2 hpq] at hprec
                have HPC := Lib.hid hprec
                have HER : Hid (errAt h k = 9) := Lib.hid (by rw [HE2.out, if_pos (HBAD.out ⟨HC.out, Bool.eq_false_iff.2 hpq⟩)])
                clear hprec hpq
                go_wp2_with fail
                refine HPC.out.mono ?_
                rintro e w6 ⟨rfl, hb0⟩
                have hb : Below wr.heap.size wr w6 := HBY.out.trans (hb0.mono HBY.out.size)
                replace KW := Lib.hid (KW.out.trans (hb.mono KW.out.size))
                clear hb hb0
                go_wp2
                go_ret2
                exact chk_err HLT.out HP.out HER.out (by decide) KW.out
            · have ec := beq_f hc
              have HC := Lib.hid hc
              clear hc hprec
              have HB6 := Lib.hid (HBW.out.trans (HBY.out.mono HBW.out.size))
              go_wp2
              go_roundg (k - (j + 1))
              case measure => have := HM2.out; omega
              case rel => exact ⟨j + 1, by omega, by go_num, HSN.out (fun h => HC.out h.1), HB6.out⟩
          · have hjj : j = k := by omega
            subst hjj
            have HE3 : Hid (errAt h j = if ∃ s ∈ addO x, s ∈ addedL h j then 3 else 0) := Lib.hid (by rw [HE2.out, if_neg (fun ⟨y, hy, h1⟩ => HQ.out y hy h1)])
            clear HE2 HQ
            generalize addO x = la at *
            go_wp2
            go_loop [49] (fun i => ∃ q : Nat, q ≤ la.length ∧ i = .int .i64 q ∧ ∀ s ∈ la.take q, s ∉ addedL h j) (fun i => la.length - (intOf i).toNat)
            case atStart => exact ⟨0, by omega, rfl, by simp⟩
            case round =>
              obtain ⟨q, hq, rfl, hnot⟩ := hrel
              have HNOT := Lib.hid hnot
              clear hnot
              by_cases hql : q < la.length
              · obtain ⟨bs, os, cs, hv, hbs, hcs⟩ := str_at HRX.out.1 hql
                injection hv with e1 e2 e3
                subst e1
                have hqi : (q : Int) < la.length := by omega
                have hq0 : (0 : Int) ≤ (q : Int) := by omega
                have hsl : la[q].length ≤ maxLen := Nat.le_trans (HSM.out _ (List.getElem_mem hql)) (by unfold maxLen; omega)
                have hsn : la[q] ∉ addedL h j → ∀ s ∈ la.take (q + 1), s ∉ addedL h j := fun h1 s hs => by
                  rw [List.take_succ_eq_append_getElem hql] at hs
                  rcases List.mem_append.1 hs with h2 | h2
                  · exact HNOT.out s h2
                  · rw [List.mem_singleton.1 h2]; exact h1
                have HSN := Lib.hid hsn
                have HMEM := Lib.hid (List.getElem_mem hql)
                unfold vs at hcs
                clear e2 e3 hsn
                generalize la[q] = s at *
                by_cases hin : s ∈ addedL h j
                · have HER : Hid (errAt h j = 3) := Lib.hid (by rw [HE3.out, if_pos ⟨s, HMEM.out, hin⟩])
                  have HIN := Lib.hid (decide_eq_true hin)
                  clear hin
                  go_wp2_with (refine wpList_lookup_set rfl (.tmp 53) (.tmp 54) rfl W.heap.size _ (addedL h j) s rfl HSET.out rfl hsl HIN.out ?_)
                  go_ret2
                  exact chk_err HLT.out HP.out HER.out (by decide) KW.out
                · have HIN := Lib.hid (decide_eq_false hin)
                  have HIN2 := Lib.hid hin
                  clear hin
                  go_wp2_with (refine wpList_lookup_set rfl (.tmp 53) (.tmp 54) rfl W.heap.size _ (addedL h j) s rfl HSET.out rfl hsl HIN.out ?_)
                  go_round
                  case rel => exact ⟨q + 1, by omega, by go_num, HSN.out HIN2.out⟩
                  case measure => simp [intOf]; omega
              · have hqq : q = la.length := by omega
                subst hqq
                have HER : Hid (errAt h j = 0) := Lib.hid (by
                  rw [HE3.out, if_neg]
                  rintro ⟨s, hs, h1⟩
                  have := HNOT.out
                  rw [List.take_length] at this
                  exact this s hs h1)
                clear HNOT HE3
                go_wp2
                obtain ⟨G2, hG2⟩ : ∃ G, G = gk := ⟨_, rfl⟩
                subst hG2
                have HR0 := Lib.hid HRX.out.1
                have HW0 := Lib.hid (Below.refl wr.heap.size wr)
                obtain ⟨wc, hwc⟩ : ∃ x, x = wr := ⟨_, rfl⟩
                rw [← hwc] at HSET KW HRX ⊢
                clear hwc HR0 HW0 c0 c1 c2 c3 c4' c5' hlt6 HBW KB HM2
                go_loopg [61] la.length (fun m i wr => ∃ q : Nat, m + q = la.length ∧ i = .int .i64 q ∧ SetB wr W.heap.size (addedL h j ++ la.take q).length (addedL h j ++ la.take q) ∧ Below W.heap.size W wr ∧ wc.grownBy wr (some W.heap.size))
                case atStart => exact ⟨0, by omega, rfl, by simpa using HSET.out, KW.out, ⟨rfl, rfl, rfl, Nat.le_refl _, fun _ _ _ => rfl⟩⟩
                case round =>
                  obtain ⟨q, hmq, rfl, hset, hbel, hgr⟩ := hrel
                  have HM3 := Lib.hid hmq
                  replace HSET := Lib.hid hset
                  replace KW := Lib.hid hbel
                  have HGR := Lib.hid hgr
                  have hq : q ≤ la.length := by omega
                  clear hmq hset hbel hgr
                  by_cases hql : q < la.length
                  · obtain ⟨bs, os, cs, hv, hbs, hcs⟩ := str_at HRW.out hql
                    injection hv with e1 e2 e3
                    subst e1
                    have hcs2 := (KW.out.cell (p := ⟨bs, os + q, none⟩) hbs).trans hcs
                    have hqi : (q : Int) < la.length := by omega
                    have hq0 : (0 : Int) ≤ (q : Int) := by omega
                    have hsl : la[q].length ≤ maxLen := Nat.le_trans (HSM.out _ (List.getElem_mem hql)) (by unfold maxLen; omega)
                    have HTK : Hid (addedL h j ++ la.take (q + 1) = (addedL h j ++ la.take q) ++ [la[q]]) := Lib.hid (by rw [List.take_succ_eq_append_getElem hql, List.append_assoc])
                    have hbig : (addedL h j ++ la.take q).length < maxLen := by rw [List.length_append, List.length_take]; unfold maxLen; omega
                    unfold vs at hcs2
                    clear e2 e3 hcs
                    generalize la[q] = s at *
                    generalize addedL h j ++ la.take q = S at *
                    go_wp2_with (refine wpList_store_set rfl (.tmp 65) (.tmp 66) _ rfl W.heap.size _ S s rfl HSET.out hbig rfl hsl rfl ?_)
                    intro w8 hset8 hgr8
                    have H8 := Lib.hid (And.intro hset8 (And.intro (below_map KW.out hgr8) (show wc.grownBy w8 (some W.heap.size) from ⟨hgr8.os.trans HGR.out.os, hgr8.tape.trans HGR.out.tape, hgr8.output.trans HGR.out.output, Nat.le_trans HGR.out.size hgr8.size, fun k h1 h2 => (hgr8.block k (Nat.lt_of_lt_of_le h1 HGR.out.size) h2).trans (HGR.out.block k h1 h2)⟩)))
                    clear hset8 hgr8
                    go_wp2
                    go_roundg (la.length - (q + 1))
                    case measure => have := HM3.out; omega
                    case rel => exact ⟨q + 1, by omega, by go_num, by rw [HTK.out, List.length_append]; exact H8.out.1, H8.out.2.1, H8.out.2.2⟩
                  · have hqq : q = la.length := by omega
                    subst hqq
                    have HNEW : Hid (SetB wr W.heap.size (addedL h (j + 1)).length (addedL h (j + 1))) := Lib.hid (by have h0 := HSET.out; rw [List.take_length] at h0; rw [HAS.out]; exact h0)
                    have HPN : Hid (∀ i, i < j + 1 → errAt h i = 0) := Lib.hid (fun i hi => by
                      rcases Nat.lt_or_ge i j with h1 | h1
                      · exact HP.out i h1
                      · have : i = j := by omega
                        subst this; exact HER.out)
                    go_wp2
                    go_roundg (h.length - (j + 1))
                    case measure => have := HM.out; omega
                    case rel => exact ⟨j + 1, by omega, by go_num, HPN.out, HNEW.out, KW.out⟩
      · have hfc := formed_any _ x (wr.alloc (.cells #[.int .i64 (cliO x), .int .i64 (kindO x), .int .i64 (begO x), .int .i64 (endO x), .slice a4 (addO x).length c4, .slice a5 (seeO x).length c5] 39)) ⟨_, _, rfl, HN.out.2.1.keep HBX.out, HN.out.2.2.keep HBX.out⟩
        rw [Bool.eq_false_iff.2 hform] at hfc
        have HFC := Lib.hid hfc
        have HER : Hid (errAt h k = 1) := Lib.hid (by rw [HE.out, if_pos (Bool.eq_false_iff.2 hform)])
        clear hfc hform HE
        go_wp2_with fail
        refine HFC.out.mono ?_
        rintro e w4 ⟨rfl, hb0⟩
        have hb : Below wr.heap.size wr w4 := HBX.out.trans (hb0.mono HBX.out.size)
        replace KW := Lib.hid (KW.out.trans (hb.mono KW.out.size))
        obtain ⟨c0, c1, c2, c3, c4', c5', hlt6⟩ := blk6 (HKX.out.on hb0)
        clear hb hb0 x0 x1 x2 x3 x4 x5
        go_wp2
        go_ret2
        exact chk_err HLT.out HP.out HER.out (by decide) KW.out
    · have HALL : Hid (∀ j, j < h.length → errAt h j = 0) := Lib.hid fun j hj => HP.out j (by omega)
      go_wp2
      go_ret2
      exact chk_fine HALL.out KW.out
end Go.Proofs.YtjijlhjggpibjaaGreat
