/-
  Chapter 29: the reference: All.
-/
import Derived.Test.YtfdicndmebhmdaaNl
import Derived.Test.YtfdicndmebhmdaaPe
namespace Go.Proofs.Ytfdicndmebhmdaa
open Go.RowKit
def rallE (n : Nat) (t : List Ev) (lim : Int) : List (List Ev) := if lim ≤ 0 then [] else (linsV n t).take lim.toNat
def linG (n : Nat) (t : List Ev) (q : Nat) : List (List Ev) := (linsV n (t.eraseIdx q)).map (nthE t q :: ·)
def linF (n : Nat) (t : List Ev) (i : Nat) : List (List Ev) := ((rdyS t noU).take i).flatMap (linG n t)
theorem linF_succ {n i : Nat} {t : List Ev} (h : i < (rdyS t noU).length) : linF n t (i + 1) = linF n t i ++ linG n t (rdyS t noU)[i] := by
  unfold linF
  rw [List.take_succ_eq_append_getElem h, List.flatMap_append]
  simp
theorem linF_all (n : Nat) (t : List Ev) : linF n t (rdyS t noU).length = linsV (n + 1) t := by
  unfold linF
  rw [List.take_length]
  show _ = (mfr t).flatMap fun e => (linsV n (t.erase e)).map (e :: ·)
  unfold mfr
  rw [List.flatMap_map]
  refine flatMap_same fun q hq => ?_
  unfold linG
  rw [rdy_erase hq]
theorem linF_pre (n : Nat) (t : List Ev) (i : Nat) : ∀ m, i ≤ m → m ≤ (rdyS t noU).length → ∃ r, linF n t m = linF n t i ++ r
  | 0, h, _ => by have : i = 0 := by omega
                  subst this; exact ⟨[], by simp⟩
  | m + 1, h, hm => by
    by_cases e : i = m + 1
    · subst e; exact ⟨[], by simp⟩
    · obtain ⟨r, hr⟩ := linF_pre n t i m (by omega) (by omega)
      exact ⟨r ++ linG n t (rdyS t noU)[m], by rw [linF_succ (by omega), hr, List.append_assoc]⟩
theorem lin_step {n i : Nat} {t : List Ev} {L : Nat} (h : i < (rdyS t noU).length) (hl : ((linF n t i).take L).length < L) :
    (linF n t i).take L ++ ((linsV n (t.eraseIdx (rdyS t noU)[i])).take (L - ((linF n t i).take L).length)).map (nthE t (rdyS t noU)[i] :: ·) = (linF n t (i + 1)).take L := by
  rw [List.length_take] at hl
  have e : (linF n t i).take L = linF n t i := List.take_of_length_le (by omega)
  rw [e, linF_succ h, List.take_append, e, List.map_take]
  rfl
theorem lin_done {n i : Nat} {t : List Ev} {L : Nat} (hi : i ≤ (rdyS t noU).length) (h : i = (rdyS t noU).length ∨ L ≤ ((linF n t i).take L).length) : (linF n t i).take L = (linsV (n + 1) t).take L := by
  rw [← linF_all]
  rcases h with h | h
  · rw [← h]
  · rw [List.length_take] at h
    obtain ⟨r, hr⟩ := linF_pre n t i _ hi (Nat.le_refl _)
    rw [hr, List.take_append_of_le_length (by omega)]
def lB (t : TypeId) (cs : Array Value) : Left := .has (fun x w => ∃ g, x = .slice (some ⟨g, 0, none⟩) 1 1 ∧ Blk w g t cs) (fun _ _ _ hb ⟨g, a, b⟩ => ⟨g, a, b.on hb⟩)
def lE (W1 : World) (L : List Ev) : Left := .has (fun x w => EvsW W1 w x L) (fun _ _ _ hb h => h.on hb)
def lO (W1 : World) (L : List Ev) : Left := .has (fun x w => ∃ g u, x = .slice (some ⟨g, 0, none⟩) 1 1 ∧ Blk w g 22 #[u] ∧ EvsW W1 w u L) (fun _ _ _ hb ⟨g, u, a, b, c⟩ => ⟨g, u, a, b.on hb, c.on hb⟩)
def OutR (W1 W : World) (B2 : Nat) (lv : Value) (l : List Nat) (rv : Value) (REST OUT : List (List Ev)) (x : Value) (w : World) : Prop :=
  RowsW W.heap.size W1 w x OUT ∧ w.ownsRow W.heap.size 3 1 lv l.length (l.map nv) ∧ RowsW B2 W1 w rv REST ∧ (∀ b, rv.ownBlock = some b → x.ownBlock ≠ some b) ∧ Below W.heap.size W w
theorem OutR.on {W1 W w w' : World} {B2 : Nat} {lv rv x : Value} {l : List Nat} {REST OUT : List (List Ev)} (h : OutR W1 W B2 lv l rv REST OUT x w) (hb : Below w.heap.size w w') : OutR W1 W B2 lv l rv REST OUT x w' :=
  ⟨h.1.on hb, below_row h.2.1 hb, h.2.2.1.on hb, h.2.2.2.1, h.2.2.2.2.trans (hb.mono h.2.2.2.2.size)⟩
def lR (W1 W : World) (B2 : Nat) (lv : Value) (l : List Nat) (rv : Value) (REST OUT : List (List Ev)) : Left := .has (fun x w => OutR W1 W B2 lv l rv REST OUT x w) (fun _ _ _ hb h => h.on hb)
theorem OutR.snoc {W1 W w w' : World} {B2 : Nat} {lv rv x x' : Value} {l : List Nat} {REST OUT OUT' : List (List Ev)} (h : OutR W1 W B2 lv l rv REST OUT x w) (hr : RowsW W.heap.size W1 w' x' OUT') (hg : w.grownBy w' x.ownBlock) (hx : x'.ownBlock = x.ownBlock ∨ x'.ownBlock = some w.heap.size) : OutR W1 W B2 lv l rv REST OUT' x' w' := by
  obtain ⟨h1, h2, h3, h4, h5⟩ := h
  obtain ⟨us, hrow, -⟩ := h1
  refine ⟨hr, h2.kept hg (rows_ne h2 hrow (by decide)), h3.grown hrow h4 hg, fun b hb => ?_, h5.trans (below_own (Nat.le_refl _) hrow hg h5.size)⟩
  rcases hx with e | e
  · rw [e]; exact h4 b hb
  · rw [e]
    intro q
    injection q with q
    have := (h3.lt hb).2
    omega
set_option maxRecDepth 100000 in
set_option maxHeartbeats 8000000 in
theorem rall_any (n : Nat) : ∀ (t : List Ev) (tv : Value) (lim : Int) (W1 W : World), t.length = n → n ≤ 100 → lim ≤ 100000 → ReadsW W1 W tv t → Below W1.heap.size W1 W →
    Calls Try.prog 24 #[tv, .int .i64 lim] W (fun e w' => ∃ v, e = .returned v ∧ RowsW W.heap.size W1 w' v (rallE n t lim) ∧ Below W.heap.size W w') := by
  induction n with
  | zero =>
    intro t tv lim W1 W hn hn100 hlim hr hbW
    have ht := List.length_eq_zero_iff.1 hn
    subst ht
    obtain ⟨ao, cap, rfl, -, hm, -, -⟩ := hr
    unfold maxLen at hm
    have HB0 := Lib.hid ((Below.refl W.heap.size W).alloc (Nat.le_refl _) (.cells #[] 22))
    have HN0 := Lib.hid (RowsW.nil (W1 := W1) W (Nat.le_refl _))
    by_cases hl0 : lim ≤ 0
    · have HF : Hid (rallE 0 ([] : List Ev) lim = []) := Lib.hid (by unfold rallE; rw [if_pos hl0])
      go_enter Try.func24, Try.ntmps24
      go_wp2
      go_ret
      exact ⟨_, rfl, by rw [HF.out]; exact HN0.out, HB0.out⟩
    · have HF : Hid (rallE 0 ([] : List Ev) lim = [[]]) := Lib.hid (by
        unfold rallE
        rw [if_neg hl0]
        obtain ⟨k, hk⟩ : ∃ k, lim.toNat = k + 1 := ⟨lim.toNat - 1, by omega⟩
        rw [hk]; simp [linsV])
      go_enter Try.func24, Try.ntmps24
      have HE : Hid (Blk (((W.alloc (.cells #[] 22)).alloc (.cells #[] 29)).alloc (.cells #[.slice (some ⟨W.heap.size + 1, 0, none⟩) 0 0] 22)) (W.heap.size + 1 + 1) 22 #[.slice (some ⟨W.heap.size + 1, 0, none⟩) 0 0] ∧
          EvsW W1 (((W.alloc (.cells #[] 22)).alloc (.cells #[] 29)).alloc (.cells #[.slice (some ⟨W.heap.size + 1, 0, none⟩) 0 0] 22)) (.slice (some ⟨W.heap.size + 1, 0, none⟩) 0 0) [] ∧
          RowsW W.heap.size W1 (((W.alloc (.cells #[] 22)).alloc (.cells #[] 29)).alloc (.cells #[.slice (some ⟨W.heap.size + 1, 0, none⟩) 0 0] 22)) (.slice (some ⟨W.heap.size, 0, none⟩) 0 0) [] ∧
          Below W.heap.size W (((W.alloc (.cells #[] 22)).alloc (.cells #[] 29)).alloc (.cells #[.slice (some ⟨W.heap.size + 1, 0, none⟩) 0 0] 22))) := Lib.hid (by
        have h0 := HN0.out
        have hB := HB0.out
        obtain ⟨w1, hw1⟩ : ∃ w1, w1 = W.alloc (.cells #[] 22) := ⟨_, rfl⟩
        have hs1 : w1.heap.size = W.heap.size + 1 := by rw [hw1, World.size_alloc]
        rw [← hw1] at h0 hB ⊢
        have h1 := Blk.new (w1.alloc (.cells #[] 29)) 22 #[.slice (some ⟨W.heap.size + 1, 0, none⟩) 0 0]
        rw [World.size_alloc, hs1] at h1
        have h3 := below_two w1 (.cells #[] 29) (.cells #[.slice (some ⟨W.heap.size + 1, 0, none⟩) 0 0] 22)
        refine ⟨h1, ?_, h0.on h3, hB.trans (h3.mono (by omega))⟩
        have h2 := (Blk.new w1 29 #[]).alloc (.cells #[.slice (some ⟨W.heap.size + 1, 0, none⟩) 0 0] 22)
        rw [hs1] at h2
        exact EvsW.nil h2)
      go_wp2_with (at_builtin; refine append_rowsw rfl _ _ rfl _ _ [] [] _ rfl HE.out.2.2.1 rfl HE.out.1 HE.out.2.1 (by simp) (by simp only [World.size_alloc]; omega) ?_)
      intro v' w' h1 h2 h3
      have H1 := Lib.hid h1
      have HB : Hid (Below W.heap.size W w') := Lib.hid (by
        obtain ⟨us, hrow, -⟩ := HE.out.2.2.1
        exact HE.out.2.2.2.trans (below_own (Nat.le_refl _) hrow h2 (by simp only [World.size_alloc]; omega)))
      clear h1 h2 h3
      go_wp2
      go_ret
      exact ⟨_, rfl, by rw [HF.out]; exact H1.out, HB.out⟩
  | succ n ih =>
    intro t tv lim W1 W hn hn100 hlim hr hbW
    have HR := Lib.hid (And.intro hr hbW)
    have HN := Lib.hid hn
    obtain ⟨ao, cap, rfl, hl, hm, -, -⟩ := hr
    unfold maxLen at hm
    have HB0 := Lib.hid ((Below.refl W.heap.size W).alloc (Nat.le_refl _) (.cells #[] 22))
    have HN0 := Lib.hid (RowsW.nil (W1 := W1) W (Nat.le_refl _))
    have IH := Lib.hid ih
    clear ih hbW
    by_cases hl0 : lim ≤ 0
    · have HF : Hid (rallE (n + 1) t lim = []) := Lib.hid (by unfold rallE; rw [if_pos hl0])
      go_enter Try.func24, Try.ntmps24
      go_wp2
      go_ret
      exact ⟨_, rfl, by rw [HF.out]; exact HN0.out, HB0.out⟩
    · have HF : Hid (rallE (n + 1) t lim = (linsV (n + 1) t).take lim.toNat) := Lib.hid (by unfold rallE; rw [if_neg hl0])
      have h0t : ((t.length : Int) == 0) = false := beq_f (by omega)
      have hlp : (0 : Int) < lim := by omega
      have htl : t.length ≤ 100 := by omega
      have hn10 : n ≤ 100 := by omega
      clear hl0 hn hn100
      go_enter Try.func24, Try.ntmps24
      go_wp2_with fail
      refine (least_any _ t _ ((HR.out.1.toE HR.out.2).on HB0.out) (by omega)).mono ?_
      rintro e w2 ⟨lv, rfl, hls, hb⟩
      have KW2 := Lib.hid (HB0.out.trans (hb.mono HB0.out.size))
      have HO2 := Lib.hid (HN0.out.on hb)
      obtain ⟨i0, tl0, hrd, -⟩ := rdy_head (t := t) (by have := HN.out; omega)
      have hpos : 0 < (rdyS t noU).length := by rw [hrd]; simp
      obtain ⟨la, lc, rfl⟩ := row_slc hls
      obtain ⟨lg, rfl, -, -⟩ := row_at hls hpos
      have HLS := Lib.hid (ownsRow_base hls HB0.out.size)
      have HMEM := Lib.hid (fun q (h : q ∈ rdyS t noU) => (mem_rdyS.1 h).1)
      have hll : (rdyS t noU).length ≤ 100 := by have h1 := mfr_len t; unfold mfr at h1; rw [List.length_map] at h1; omega
      have HSTEP := Lib.hid (fun i (h : i < (rdyS t noU).length) => lin_step (n := n) (t := t) (L := lim.toNat) h)
      have HDONE := Lib.hid (fun i (h : i ≤ (rdyS t noU).length) => lin_done (n := n) (t := t) (L := lim.toNat) h)
      have HZ : Hid ((linF n t 0).take lim.toNat = []) := Lib.hid (by unfold linF; simp)
      generalize hlg : rdyS t noU = l at *
      clear hrd hb hls hlg hpos HB0 HN0
      go_wp2
      go_loopg [5, 7, 8, 9] l.length (fun m o ix _ _ wr => ∃ i : Nat, m + i = l.length ∧ ix = .int .i64 i ∧ RowsW W.heap.size W1 wr o ((linF n t i).take lim.toNat) ∧ wr.ownsRow W.heap.size 3 1 (.slice (some ⟨lg, 0, none⟩) l.length lc) l.length (l.map nv) ∧ Below W.heap.size W wr)
      case atStart => exact ⟨0, by omega, rfl, by rw [HZ.out]; exact HO2.out, HLS.out, KW2.out⟩
      case round =>
        clear HO2 HLS KW2 HZ
        rename World => w3
        obtain ⟨i, hmi, rfl, hO, hL, hb⟩ := hrel
        have HM := Lib.hid hmi
        have HO := Lib.hid hO
        have HL := Lib.hid hL
        have KW := Lib.hid hb
        have HS := Lib.hid (HSTEP.out i)
        have HD := Lib.hid (HDONE.out i (by omega))
        have hol : ((linF n t i).take lim.toNat).length ≤ lim.toNat := by rw [List.length_take]; omega
        generalize hOUT : (linF n t i).take lim.toNat = OUT at *
        clear hOUT
        obtain ⟨oa, oc, rfl⟩ := hO.slc
        have hi : i ≤ l.length := by omega
        clear hmi hO hL hb
        by_cases hil : i < l.length
        · have hili : (i : Int) < l.length := by omega
          have hi0 : (0 : Int) ≤ (i : Int) := by omega
          by_cases hlt : OUT.length < lim.toNat
          · have hlti : (OUT.length : Int) < lim := by omega
            have HS2 := Lib.hid (HS.out hil hlt)
            have hcell := row_cell HL.out (l := i) (u := nv l[i]) (by simp [hil])
            have hql := HMEM.out l[i] (List.getElem_mem hil)
            have HIL := Lib.hid hil
            have HCL : Hid (∀ wq : World, wq.ownsRow W.heap.size 3 1 (.slice (some ⟨lg, 0, none⟩) l.length lc) l.length (l.map nv) → wq.cell? ⟨lg, i, none⟩ = some (nv l[i])) := Lib.hid fun (wq : World) hq => (row_cell hq (by rw [List.getElem?_map, List.getElem?_eq_getElem hil]; rfl)).1
            generalize l[i] = q at *
            have c0 : w3.cell? ⟨lg, i, none⟩ = some (.int .i64 (q : Int)) := hcell.1
            have HQ := Lib.hid hql
            have esub : IntKind.i64.wrap (lim - (OUT.length : Int)) = lim - (OUT.length : Int) := IntWalk.i64_in _ (by omega)
            have hq0 : (0 : Int) ≤ (q : Int) := by omega
            have hqI : (q : Int) < t.length := by omega
            clear hil hlt hcell hql HS HD
            go_wp2_with fail
            refine (without_any _ t q W1 w3 (HR.out.1.on KW.out) (HR.out.2.trans (KW.out.mono HR.out.2.size)) HQ.out (by omega)).mono ?_
            rintro e w4 ⟨v4, rfl, h4⟩
            have HB4 := Lib.hid h4.1.2.2
            have H4 := Lib.hid h4.readsW
            obtain ⟨a4, c4, rfl⟩ := h4.slc
            clear h4 c0
            go_wp2_with fail
            refine (IH.out (t.eraseIdx q) _ (lim - (OUT.length : Int)) W1 w4 (by rw [List.length_eraseIdx, if_pos HQ.out]; have := HN.out; omega) hn10 (by omega) H4.out ((HR.out.2.trans (KW.out.mono HR.out.2.size)).trans (HB4.out.mono (Nat.le_trans HR.out.2.size KW.out.size)))).mono ?_
            rintro e w5 ⟨rv, rfl, hrs, hb5⟩
            have hre : rallE n (t.eraseIdx q) (lim - (OUT.length : Int)) = (linsV n (t.eraseIdx q)).take (lim.toNat - OUT.length) := by
              unfold rallE
              rw [if_neg (by omega)]
              congr 1
              omega
            rw [hre] at hrs
            have hrl : ((linsV n (t.eraseIdx q)).take (lim.toNat - OUT.length)).length ≤ lim.toNat - OUT.length := by rw [List.length_take]; omega
            have HYL : Hid (∀ y, y ∈ (linsV n (t.eraseIdx q)).take (lim.toNat - OUT.length) → y.length ≤ 100) := Lib.hid fun y hy => by
              have h1 : (t.eraseIdx q).length = n := by rw [List.length_eraseIdx, if_pos HQ.out]; have := HN.out; omega
              have h2 := ((lins_mem h1).1 (List.mem_of_mem_take hy)).len
              omega
            generalize (linsV n (t.eraseIdx q)).take (lim.toNat - OUT.length) = REST at *
            obtain ⟨ra, rc, rfl⟩ := hrs.slc
            have HX : Hid (OutR W1 W w4.heap.size (.slice (some ⟨lg, 0, none⟩) l.length lc) l (.slice ra REST.length rc) REST OUT (.slice oa OUT.length oc) w5) := Lib.hid (by
              have hb35 := HB4.out.trans (hb5.mono HB4.out.size)
              refine ⟨HO.out.on hb35, below_row HL.out hb35, hrs, fun b hb e => ?_, KW.out.trans (hb35.mono KW.out.size)⟩
              have h6 := (hrs.lt hb).1
              have h7 := (HO.out.lt e).2
              have := HB4.out.size
              omega)
            clear hre hrs hb5 HO HL KW HB4 H4
            go_wp2
            go_loopg [5, 9] REST.length (fun m o kx wr => ∃ p : Nat, m + p = REST.length ∧ kx = .int .i64 p ∧ OutR W1 W w4.heap.size (.slice (some ⟨lg, 0, none⟩) l.length lc) l (.slice ra REST.length rc) REST (OUT ++ (REST.take p).map (nthE t q :: ·)) o wr)
            case atStart => exact ⟨0, by omega, rfl, by simpa using HX.out⟩
            case round =>
              clear HX
              rename World => w6
              obtain ⟨p, hmp, rfl, hX⟩ := hrel
              have HM2 := Lib.hid hmp
              have HX := Lib.hid hX
              obtain ⟨ob, oc2, rfl⟩ := hX.1.slc
              have hp : p ≤ REST.length := by omega
              have hp0 : (0 : Int) ≤ (p : Int) := by omega
              have hlen : (OUT ++ (REST.take p).map (nthE t q :: ·)).length ≤ 100000 := by rw [List.length_append, List.length_map, List.length_take]; omega
              have HSN : Hid (∀ h : p < REST.length, (OUT ++ (REST.take p).map (nthE t q :: ·)) ++ [nthE t q :: REST[p]] = OUT ++ (REST.take (p + 1)).map (nthE t q :: ·)) := Lib.hid fun h => by rw [List.append_assoc, List.take_succ_eq_append_getElem h, List.map_append]; rfl
              have HALL : Hid (p = REST.length → OUT ++ (REST.take p).map (nthE t q :: ·) = (linF n t (i + 1)).take lim.toNat) := Lib.hid fun e => by rw [e, List.take_length]; exact HS2.out
              generalize hO2 : OUT ++ (REST.take p).map (nthE t q :: ·) = OUT2 at *
              clear hO2 hmp hX
              by_cases hpr : p < REST.length
              · have hpri : (p : Int) < REST.length := by omega
                have hq := HQ.out
                obtain ⟨us, hrr, -⟩ := HX.out.2.2.1
                obtain ⟨rg, rfl, -, -⟩ := row_at hrr (by omega)
                obtain ⟨ua, uc, hucell, hurd⟩ := HX.out.2.2.1.cell hpr
                have HU := Lib.hid (And.intro hucell hurd)
                have hyl : REST[p].length ≤ 100000 := by have := HYL.out _ (List.getElem_mem hpr); omega
                have HSN2 := Lib.hid (HSN.out hpr)
                have HPR := Lib.hid hpr
                have KW6 := Lib.hid HX.out.2.2.2.2
                have hne := nthE_eq hq
                obtain ⟨b, off, cap1, s1, c1, hv, hcell, r1⟩ := HR.out.1.at2 hq
                injection hv with e1 e2 e3
                subst e1
                have HC := Lib.hid (And.intro hcell r1)
                have HNE := Lib.hid hne
                generalize REST[p] = y at *
                generalize t[q] = x at *
                clear hrr hucell hurd hcell r1 e2 e3 hpr hq hne HSN
                go_wp2_with fail
                refine region_loud [.is (.slice ob OUT2.length oc2), .is (.slice (some ⟨b, off, none⟩) t.length cap), .is (.slice (some ⟨lg, 0, none⟩) l.length lc), .is (.int .i64 (i : Int)), .is (.pointer (some ⟨lg, i, none⟩)), .is (.int .i64 (q : Int)), .is (.pointer (some ⟨b, off + q * 2, none⟩)), .is (.agg #[.int .i64 x.1, .slice s1 x.2.length c1]), (lB 29 #[.int .i64 x.1, .slice s1 x.2.length c1]), .is (.slice (some ⟨rg, 0, none⟩) REST.length rc), .is (.int .i64 (p : Int)), .is (.pointer (some ⟨rg, p, none⟩)), .is (.slice ua y.length uc), (lE W1 (x :: y)), (lO W1 (x :: y))] [(lR W1 W w4.heap.size (.slice (some ⟨lg, 0, none⟩) l.length lc) l (.slice (some ⟨rg, 0, none⟩) REST.length rc) REST (OUT2 ++ [x :: y]))] ((lR W1 W w4.heap.size (.slice (some ⟨lg, 0, none⟩) l.length lc) l (.slice (some ⟨rg, 0, none⟩) REST.length rc) REST (OUT2 ++ [x :: y]))) 15 rfl _ rfl (by kernel_rfl) rfl (by kernel_rfl) (by kernel_rfl) (by kernel_rfl) (by kernel_rfl) (.cons ?z0 (.cons ?z1 (.cons ?z2 (.cons ?z3 (.cons ?z4 (.cons ?z5 (.cons ?z6 (.cons ?z7 (.cons ?z8 (.cons ?z9 (.cons ?z10 (.cons ?z11 (.cons ?z12 (.cons ?z13 (.cons ?z14 .nil))))))))))))))) ?z15 (.cons ?z16 .nil) ?zfin
                case z0 =>
                  intro wq hbw st  K hK
                  simp only [Act.put, List.setIfInBounds_toArray, List.set_cons_zero, List.set_cons_succ] at hK ⊢
                  unfold opStep
                  rw [if_pos (by rfl)]
                  go_simp
                  exact hK.out _ _ (Below.refl _ _) rfl _ rfl
                case z1 =>
                  intro wq hbw st  K hK
                  simp only [Act.put, List.setIfInBounds_toArray, List.set_cons_zero, List.set_cons_succ] at hK ⊢
                  unfold opStep
                  rw [if_pos (by rfl)]
                  go_simp
                  exact hK.out _ _ (Below.refl _ _) rfl _ rfl
                case z2 =>
                  intro wq hbw st  K hK
                  simp only [Act.put, List.setIfInBounds_toArray, List.set_cons_zero, List.set_cons_succ] at hK ⊢
                  unfold opStep
                  rw [if_pos (by rfl)]
                  go_simp
                  exact hK.out _ _ (Below.refl _ _) rfl _ rfl
                case z3 =>
                  intro wq hbw st  K hK
                  simp only [Act.put, List.setIfInBounds_toArray, List.set_cons_zero, List.set_cons_succ] at hK ⊢
                  unfold opStep
                  rw [if_pos (by rfl)]
                  go_simp
                  exact hK.out _ _ (Below.refl _ _) rfl _ rfl
                case z4 =>
                  intro wq hbw st  K hK
                  simp only [Act.put, List.setIfInBounds_toArray, List.set_cons_zero, List.set_cons_succ] at hK ⊢
                  unfold opStep
                  rw [if_pos (by rfl)]
                  go_simp
                  exact hK.out _ _ (Below.refl _ _) rfl _ rfl
                case z5 =>
                  intro wq hbw st  K hK
                  simp only [Act.put, List.setIfInBounds_toArray, List.set_cons_zero, List.set_cons_succ] at hK ⊢
                  unfold opStep
                  rw [if_pos (by rfl)]
                  have d0 := HCL.out wq (below_row HX.out.2.1 hbw)
                  unfold nv at d0
                  go_simp
                  exact hK.out _ _ (Below.refl _ _) rfl _ rfl
                case z6 =>
                  intro wq hbw st  K hK
                  simp only [Act.put, List.setIfInBounds_toArray, List.set_cons_zero, List.set_cons_succ] at hK ⊢
                  unfold opStep
                  rw [if_pos (by rfl)]
                  go_simp
                  exact hK.out _ _ (Below.refl _ _) rfl _ rfl
                case z7 =>
                  intro wq hbw st  K hK
                  simp only [Act.put, List.setIfInBounds_toArray, List.set_cons_zero, List.set_cons_succ] at hK ⊢
                  unfold opStep
                  rw [if_pos (by rfl)]
                  have KQ := KW6.out.trans (hbw.mono KW6.out.size)
                  have dd := Lib.hid (HC.out.1 _ KQ)
                  have d0 := dd.out.1
                  have d1 := dd.out.2
                  go_simp
                  exact hK.out _ _ (Below.refl _ _) rfl _ rfl
                case z8 =>
                  intro wq hbw st  K hK
                  simp only [Act.put, List.setIfInBounds_toArray, List.set_cons_zero, List.set_cons_succ] at hK ⊢
                  unfold opStep
                  rw [if_pos (by rfl)]
                  go_simp
                  exact hK.out _ _ ((Below.refl _ _).alloc (Nat.le_refl _) _) ⟨_, rfl, Blk.new _ _ _⟩ _ rfl
                case z9 =>
                  intro wq hbw st  K hK
                  simp only [Act.put, List.setIfInBounds_toArray, List.set_cons_zero, List.set_cons_succ] at hK ⊢
                  unfold opStep
                  rw [if_pos (by rfl)]
                  go_simp
                  exact hK.out _ _ (Below.refl _ _) rfl _ rfl
                case z10 =>
                  intro wq hbw st  K hK
                  simp only [Act.put, List.setIfInBounds_toArray, List.set_cons_zero, List.set_cons_succ] at hK ⊢
                  unfold opStep
                  rw [if_pos (by rfl)]
                  go_simp
                  exact hK.out _ _ (Below.refl _ _) rfl _ rfl
                case z11 =>
                  intro wq hbw st  K hK
                  simp only [Act.put, List.setIfInBounds_toArray, List.set_cons_zero, List.set_cons_succ] at hK ⊢
                  unfold opStep
                  rw [if_pos (by rfl)]
                  go_simp
                  exact hK.out _ _ (Below.refl _ _) rfl _ rfl
                case z12 =>
                  intro wq hbw st  K hK
                  simp only [Act.put, List.setIfInBounds_toArray, List.set_cons_zero, List.set_cons_succ] at hK ⊢
                  unfold opStep
                  rw [if_pos (by rfl)]
                  have d0 := HU.out.1 wq hbw
                  go_simp
                  exact hK.out _ _ (Below.refl _ _) rfl _ rfl
                case z13 =>
                  intro wq hbw st x8 h8 K hK
                  simp only [Act.put, List.setIfInBounds_toArray, List.set_cons_zero, List.set_cons_succ] at hK ⊢
                  unfold opStep
                  rw [if_pos (by rfl)]
                  obtain ⟨g8, rfl, hB8⟩ : ∃ g, x8 = .slice (some ⟨g, 0, none⟩) 1 1 ∧ Blk wq g 29 #[.int .i64 x.1, .slice s1 x.2.length c1] := h8
                  refine wp_append_full (.tmp 60) (.tmp 64) rfl (.slice ua y.length uc) x y g8 #[.int .i64 x.1, .slice s1 x.2.length c1] rfl hB8 rfl ⟨_, rfl, HC.out.2⟩ rfl (HU.out.2.readsW.on hbw) (by omega) ?_
                  intro v9 w9 a9 b9
                  exact hK.out _ _ b9 a9 _ rfl
                case z14 =>
                  intro wq hbw st x13 h13 K hK
                  simp only [Act.put, List.setIfInBounds_toArray, List.set_cons_zero, List.set_cons_succ] at hK ⊢
                  unfold opStep
                  rw [if_pos (by rfl)]
                  obtain ⟨a13, c13, rfl⟩ := EvsW.slc (show EvsW W1 wq x13 (x :: y) from h13)
                  go_simp
                  have hE : EvsW W1 wq (.slice a13 (x :: y).length c13) (x :: y) := h13
                  exact hK.out _ _ ((Below.refl _ _).alloc (Nat.le_refl _) _) ⟨_, _, rfl, Blk.new _ _ _, hE.on ((Below.refl _ _).alloc (Nat.le_refl _) _)⟩ _ rfl
                case z15 =>
                  intro wq hbw st x8 h8 x13 h13 x14 h14 K hK
                  simp only [Act.put, List.setIfInBounds_toArray, List.set_cons_zero, List.set_cons_succ] at hK ⊢
                  unfold opStep
                  rw [if_pos (by rfl)]
                  obtain ⟨g14, u14, rfl, hB14, hu14⟩ : ∃ g u, x14 = .slice (some ⟨g, 0, none⟩) 1 1 ∧ Blk wq g 22 #[u] ∧ EvsW W1 wq u (x :: y) := h14
                  have HX1 := HX.out.on hbw
                  refine wp_append_rowsw (.tmp 52) (.tmp 66) rfl _ u14 OUT2 (x :: y) g14 rfl HX1.1 rfl hB14 hu14 (by omega) HX1.2.2.2.2.size ?_
                  intro v5 w5 a5 g5 b5
                  exact hK.out v5 w5 (HX1.snoc a5 g5 b5) _ rfl
                case z16 =>
                  intro wq _ st x8 h8 x13 h13 x14 h14 x15 h15 K hK
                  simp only [Act.put, List.setIfInBounds_toArray, List.set_cons_zero, List.set_cons_succ] at hK ⊢
                  unfold opStep
                  rw [if_pos (by rfl)]
                  go_simp
                  exact hK.out _ _ (Below.refl _ _) h15 _ rfl
                case zfin =>
                  intro wq
                  intro x8 h8 x13 h13 x14 h14 x15 h15 x16 h16
                  try simp only [FinAll]
                  simp only [Act.put, List.setIfInBounds_toArray, List.set_cons_zero, List.set_cons_succ]
                  have HX2 := Lib.hid (show OutR W1 W w4.heap.size (.slice (some ⟨lg, 0, none⟩) l.length lc) l (.slice (some ⟨rg, 0, none⟩) REST.length rc) REST (OUT2 ++ [x :: y]) x16 wq from h16)
                  clear h8 h13 h14 h15 h16 HX KW6 HU HC
                  go_wp2
                  go_roundg (REST.length - (p + 1))
                  case measure => have := HM2.out; have := HPR.out; omega
                  case rel => exact ⟨p + 1, by have := HPR.out; omega, by go_num, by rw [← HSN2.out, HNE.out]; exact HX2.out⟩
              · have hpri : ¬ (p : Int) < REST.length := by omega
                have HE := Lib.hid (HALL.out (by omega))
                go_wp2
                go_roundg (l.length - (i + 1))
                case measure => have := HM.out; have := HIL.out; omega
                case rel => exact ⟨i + 1, by have := HIL.out; omega, by go_num, by rw [← HE.out]; exact HX.out.1, HX.out.2.1, HX.out.2.2.2.2⟩
          · have hlti : ¬ (OUT.length : Int) < lim := by omega
            have HE := Lib.hid (HD.out (.inr (by omega)))
            go_wp2
            go_ret
            exact ⟨_, rfl, by rw [HF.out, ← HE.out]; exact HO.out, KW.out⟩
        · have hili : ¬ (i : Int) < l.length := by omega
          have HE := Lib.hid (HD.out (.inl (by omega)))
          go_wp2
          go_ret
          exact ⟨_, rfl, by rw [HF.out, ← HE.out]; exact HO.out, KW.out⟩
end Go.Proofs.Ytfdicndmebhmdaa
