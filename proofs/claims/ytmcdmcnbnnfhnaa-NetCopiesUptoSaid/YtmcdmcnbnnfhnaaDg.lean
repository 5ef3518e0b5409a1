/-
  Chapter 28: copies of commands, the walk.
-/
import Derived.Test.YtmcdmcnbnnfhnaaDf
namespace Go.Proofs.Ytmcdmcnbnnfhnaa
open Go.RowKit

/-- The same, with the writes of command i copied too. -/
def QM (B g N i : Nat) : Nat → Nat → Nat → Prop := fun j k b => if ((k = 3 ∨ k = 5) ∧ j < i) ∨ (k = 3 ∧ j = i) then g < b ∧ b < N else b < B
theorem QM.not {B g N i : Nat} (hg : B ≤ g) (j k : Nat) : ¬ QM B g N i j k g := by unfold QM; split <;> omega
theorem QM.of {B g N N' i : Nat} (hN : N ≤ N') {j k b : Nat} (h : if j = i ∧ k = 3 then g < b ∧ b < N' else QC B g N i j k b) : QM B g N' i j k b := by
  unfold QC at h
  unfold QM
  by_cases e : j = i ∧ k = 3
  · rw [if_pos e] at h
    rw [if_pos (.inr ⟨e.2, e.1⟩)]; exact h
  · rw [if_neg e] at h
    by_cases e2 : (k = 3 ∨ k = 5) ∧ j < i
    · rw [if_pos e2] at h
      rw [if_pos (.inl e2)]; omega
    · rw [if_neg e2] at h
      rw [if_neg (by rintro (q | q); exact e2 q; exact e ⟨q.2, q.1⟩)]; exact h
theorem QM.next {B g N N' i : Nat} (hN : N ≤ N') {j k b : Nat} (h : if j = i ∧ k = 5 then g < b ∧ b < N' else QM B g N i j k b) : QC B g N' (i + 1) j k b := by
  unfold QM at h
  unfold QC
  by_cases e : j = i ∧ k = 5
  · rw [if_pos e] at h
    rw [if_pos ⟨.inr e.2, by omega⟩]; exact h
  · rw [if_neg e] at h
    by_cases e2 : ((k = 3 ∨ k = 5) ∧ j < i) ∨ (k = 3 ∧ j = i)
    · rw [if_pos e2] at h
      rw [if_pos (by omega)]; omega
    · rw [if_neg e2] at h
      rw [if_neg (by omega)]; exact h
/-- What stands behind a write's copy. -/
def leftWr (B gw capw n i k N : Nat) (l : List CmdM) (ws : List WrM) (v : Value) (W : World) (hBN : B ≤ N) : Left := .has (fun _ wq => RowD wq gw capw 78 2 (QF B gw 1 k) (ws.map wrD) ∧ RowO wq B n 81 6 (QC B B N i) (l.map cmdD) i 3 v ∧ Below B W wq ∧ N ≤ wq.heap.size)
  fun _ _ _ hb h => ⟨h.1.on hb, h.2.1.on hb, h.2.2.1.trans (hb.mono (Nat.le_trans hBN h.2.2.2)), Nat.le_trans h.2.2.2 hb.size⟩
set_option maxRecDepth 100000 in
set_option maxHeartbeats 8000000 in
theorem commands_any {P : Nat → Prop} (v : Value) (l : List CmdM) (w : World) (h : ReadsD P w v (cmdsD l)) : Calls Try.prog 59 #[v] w (DeepMade w (cmdsD l)) := by
  have hold : ReadsD (fun b => b < w.heap.size) w v (cmdsD l) := h.lt.mono fun b hb _ => hb.2
  clear h
  obtain ⟨ao, cap, rfl, hl, hm, -, hL⟩ := ReadsD.slcM (f := cmdD) hold
  have hmk := make_cmds l.length hL w
  have HO := Lib.hid hold
  obtain ⟨w1, hrun, hrow, hb1⟩ := copy_clone (P := fun b => b < w.heap.size) (w := w) 32 81 3 6 Try.underlying32 cmd_size (by decide) w.heap.size cap l.length ao (l.map cmdD) (by simp) (madeCells cmdZero (l.length * 6)) HO.out (Blk.new w 81 (madeCells cmdZero (l.length * 6))) (size_madeCells _ _) ((Below.refl _ _).alloc (Nat.le_refl _) _) (Nat.le_refl _)
  generalize madeCells cmdZero (l.length * 6) = mk at *
  have HRW := Lib.hid (And.intro hrow hb1)
  clear hold hrow hb1
  go_enter Try.func59, Try.ntmps59
  go_upto_region 3 with fail
  obtain ⟨hrow, hb1⟩ := HRW.out
  obtain ⟨B, hB⟩ : ∃ B, B = w.heap.size := ⟨_, rfl⟩
  rw [← hB] at hrow hb1 ⊢
  have HR : Hid (RowD w1 B l.length 81 6 (QC B B w1.heap.size 0) (l.map cmdD)) := Lib.hid (hrow.mono fun j k b hb _ => by unfold QC; rw [if_neg (by omega)]; omega)
  have HB : Hid (Below B w w1 ∧ B = w.heap.size) := Lib.hid ⟨hb1, hB⟩
  clear hrow hb1 hB hmk hrun HRW HO hm hl
  go_wp2
  go_loopg [4, 5, 14] l.length (fun m _ _ ix wr => ∃ i : Nat, m + i = l.length ∧ ix = .int .i64 i ∧ RowD wr B l.length 81 6 (QC B B wr.heap.size i) (l.map cmdD) ∧ Below B w wr)
  case atStart => exact ⟨0, by omega, rfl, HR.out, HB.out.1⟩
  case round =>
    have HBW := Lib.hid HB.out.2
    clear HR HB
    rename World => w2
    obtain ⟨i, hmi, rfl, hrow, hb2⟩ := hrel
    have HM := Lib.hid hmi
    have HROW := Lib.hid hrow
    have K2 := Lib.hid hb2
    have HBS : Hid (B ≤ w2.heap.size) := Lib.hid (by rw [HBW.out] at hb2 ⊢; exact hb2.size)
    have hi : i ≤ l.length := by omega
    have hi0 : (0 : Int) ≤ (i : Int) := by omega
    clear hmi hrow hb2
    by_cases hlt : i < l.length
    · have hii : (i : Int) < l.length := by omega
      have HLT := Lib.hid (And.intro hlt trivial)
      obtain ⟨q1, q2, q3⟩ := cmd_at3 l hlt
      obtain ⟨p1, p2, p3⟩ := cmd_at5 l hlt
      obtain ⟨u, hcell, hfz, hrd⟩ := HROW.out.cell q1 q2
      rw [← q3] at hrd
      have hrd2 : ReadsD (fun b => b < B) w2 u (wrsD l[i].wr) := hrd.mono fun b hb _ => by unfold QC at hb; rw [if_neg (by omega)] at hb; exact hb
      have HCALL := Lib.hid (wr_clone u (l[i].wr.map wrD) w2 hrd2)
      obtain ⟨ua, uc, rfl, -, -, -, hwL⟩ := ReadsD.slcM (f := wrD) hrd2
      have HOPEN := Lib.hid (fun (w' : World) (v' : Value) (hb : Below w2.heap.size w2 w') => (HROW.out.on hb).open_ q1 q2 (QC.not (Nat.le_refl B)) v')
      have HCLOSE : Hid (∀ (w' : World) (v' : Value), w2.heap.size ≤ w'.heap.size → RowO w' B l.length 81 6 (QC B B w2.heap.size i) (l.map cmdD) i 3 v' → ReadsD (fun b => B < b ∧ b < w'.heap.size) w' v' (wrsD l[i].wr) → RowD w' B l.length 81 6 (QM B B w'.heap.size i) (l.map cmdD)) := Lib.hid fun w' v' hs ho hv => ho.close q1 q2 q3 hv fun j k b hb _ => QM.of hs hb
      have HTAG : Hid (∀ (w' : World), RowD w' B l.length 81 6 (QM B B w'.heap.size i) (l.map cmdD) → ∃ ut ct, (∀ wq, Below w'.heap.size w' wq → wq.cell? ⟨B, i * 6 + 5, none⟩ = some (.slice ut l[i].tag.length ct)) ∧ (∀ wq, Below w'.heap.size w' wq → wq.frozen? ⟨B, i * 6 + 5, none⟩ = false) ∧ B < w'.heap.size ∧ ReadsD (fun b => b < B) w' (.slice ut l[i].tag.length ct) (bytesD l[i].tag) ∧ ∀ (wq : World) (vt : Value), Below w'.heap.size w' wq → ReadsD (fun b => w'.heap.size ≤ b) wq vt (bytesD l[i].tag) → RowD (wq.setCell ⟨B, i * 6 + 5, none⟩ vt) B l.length 81 6 (QC B B wq.heap.size (i + 1)) (l.map cmdD)) := Lib.hid fun w' hr => by
        obtain ⟨u5, hc5, hf5, hr5⟩ := hr.cell p1 p2
        rw [← p3] at hr5
        have hr6 : ReadsD (fun b => b < B) w' u5 (bytesD l[i].tag) := hr5.mono fun b hb _ => by unfold QM at hb; rw [if_neg (by omega)] at hb; exact hb
        obtain ⟨ut, ct, rfl, -⟩ := hr6.bslc
        refine ⟨ut, ct, hc5, fun wq hq => frozen_on hr hq _, hr.lt, hr6, fun wq vt hq hv => ?_⟩
        have hlt' := hr.lt
        have h1 := (hr.on hq).put (P := fun b => B < b ∧ b < wq.heap.size) (Q' := fun j k b => if j = i ∧ k = 5 then B < b ∧ b < wq.heap.size else QM B B w'.heap.size i j k b) p1 p2 p3 (hv.lt.mono fun b hb _ => by omega) (by omega) (QM.not (Nat.le_refl B)) (fun _ _ _ => Iff.rfl)
        exact h1.mono fun j k b hb _ => QM.next hq.size hb
      have c0 := hcell w2 (Below.refl _ _)
      have HCE := Lib.hid hcell
      have HFR : Hid (∀ wq, Below w2.heap.size w2 wq → wq.frozen? ⟨B, i * 6 + 3, none⟩ = false) := Lib.hid fun wq hq => frozen_on HROW.out hq _
      have HGL := Lib.hid HROW.out.lt
      clear hcell hfz hrd hrd2 q3 p3 HROW
      generalize l[i] = x at *
      clear q1 q2 p1 p2 hlt
      go_wp2_with fail
      refine HCALL.out.mono ?_
      rintro e w3 ⟨v3, rfl, hb3, hcl⟩
      have K3 := Lib.hid hb3
      clear HCALL c0
      rcases hcl with ⟨hx, ao3, cap3, rfl, h31, h32⟩ | ⟨hne, gw, capw, rfl, hgw, hrw⟩
      · have hx0 : x.wr = [] := by simpa using hx
        clear hx hb3
        have HO4 := Lib.hid (HOPEN.out w3 (.slice ao3 0 cap3) K3.out)
        have c1 := HCE.out w3 K3.out
        have f1 := HFR.out w3 K3.out
        have l1 : B < w3.heap.size := Nat.lt_of_lt_of_le HGL.out K3.out.size
        have K4 : Hid (Below B w (w3.setCell ⟨B, i * 6 + 3, none⟩ (.slice ao3 0 cap3)) ∧ w2.heap.size ≤ (w3.setCell ⟨B, i * 6 + 3, none⟩ (.slice ao3 0 cap3)).heap.size ∧ Kept (fun b => b = B) w3 (w3.setCell ⟨B, i * 6 + 3, none⟩ (.slice ao3 0 cap3))) := Lib.hid ⟨(K2.out.trans (K3.out.mono HBS.out)).setCell (p := ⟨B, i * 6 + 3, none⟩) (Nat.le_refl B) _, by simpa [World.setCell] using K3.out.size, Kept.set _ rfl⟩
        clear HOPEN HCE HFR HGL
        go_upto_region 7 with fail
        generalize hw4 : World.setCell w3 _ _ = w4 at *
        clear hw4 c1 f1 l1
        have HR5 := Lib.hid (HCLOSE.out w4 _ K4.out.2.1 HO4.out (by rw [hx0]; exact .nil 2 ao3 cap3 h31 h32))
        have c4 := HO4.out.cell (Below.refl _ _)
        have K5 := Lib.hid K4.out.1
        clear HCLOSE HO4 hx0 h31 h32 K3 K4
        go_wp2
        clear c4
        obtain ⟨G1, hG1⟩ : ∃ G, G = gk := ⟨_, rfl⟩
        subst hG1
        go_loopg [5, 33] 0 (fun m _ ix wr => ix = .int .i64 0 ∧ wr = w4)
        case atStart => exact ⟨rfl, rfl⟩
        case round =>
          obtain ⟨rfl, rfl⟩ := hrel
          rename World => w5
          obtain ⟨ut, ct, hc5, hf5, hl5, hr5, hput⟩ := HTAG.out w5 HR5.out
          have HCALL := Lib.hid (bytes_any (.slice ut x.tag.length ct) x.tag w5 hr5)
          have c0 := hc5 w5 (Below.refl _ _)
          have HT5 := Lib.hid (And.intro hc5 (And.intro hf5 (And.intro hl5 hput)))
          clear hc5 hf5 hl5 hr5 hput HTAG
          go_wp2_with fail
          refine HCALL.out.mono ?_
          rintro e w6 ⟨v6, rfl, hb6, hv6⟩
          obtain ⟨oa, oc, rfl, -⟩ := hv6.bslc
          have HN := Lib.hid (HT5.out.2.2.2 w6 _ hb6 hv6)
          have c1 := HT5.out.1 w6 hb6
          have f1 := HT5.out.2.1 w6 hb6
          have l1 : B < w6.heap.size := Nat.lt_of_lt_of_le HT5.out.2.2.1 hb6.size
          have K6 := Lib.hid ((K5.out.trans (hb6.mono (Nat.le_of_lt HT5.out.2.2.1))).setCell (p := ⟨B, i * 6 + 5, none⟩) (Nat.le_refl B) (.slice oa x.tag.length oc))
          clear HCALL HT5 hb6 hv6 c0 K5 HR5
          go_wp2
          go_roundg (l.length - (i + 1))
          case measure => have := HM.out; have := HLT.out.1; omega
          case rel => exact ⟨i + 1, by have := HLT.out.1; omega, by go_num, by simpa [World.setCell] using HN.out, K6.out⟩
      · rw [List.length_map]
        have HGW := Lib.hid hgw
        have HGB : Hid (¬ gw = B) := Lib.hid (by have := HGL.out; omega)
        have HRW := Lib.hid hrw
        clear hgw hrw hb3 hne
        have HO4 := Lib.hid (HOPEN.out w3 (.slice (some ⟨gw, 0, none⟩) x.wr.length capw) K3.out)
        have c1 := HCE.out w3 K3.out
        have f1 := HFR.out w3 K3.out
        have l1 : B < w3.heap.size := Nat.lt_of_lt_of_le HGL.out K3.out.size
        have K4 : Hid (Below B w (w3.setCell ⟨B, i * 6 + 3, none⟩ (.slice (some ⟨gw, 0, none⟩) x.wr.length capw)) ∧ w2.heap.size ≤ (w3.setCell ⟨B, i * 6 + 3, none⟩ (.slice (some ⟨gw, 0, none⟩) x.wr.length capw)).heap.size ∧ Kept (fun b => b = B) w3 (w3.setCell ⟨B, i * 6 + 3, none⟩ (.slice (some ⟨gw, 0, none⟩) x.wr.length capw))) := Lib.hid ⟨(K2.out.trans (K3.out.mono HBS.out)).setCell (p := ⟨B, i * 6 + 3, none⟩) (Nat.le_refl B) _, by simpa [World.setCell] using K3.out.size, Kept.set _ rfl⟩
        clear HOPEN HCE HFR HGL
        go_upto_region 7 with fail
        generalize hw4 : World.setCell w3 _ _ = w4 at *
        clear hw4 c1 f1 l1
        have HR0 : Hid (RowD w4 gw capw 78 2 (QF B gw 1 0) (x.wr.map wrD)) := Lib.hid ((HRW.out.kept K4.out.2.2 HGB.out fun _ _ b hb _ => by omega).mono fun j k b hb _ => QF.zero _ _ _ hb)
        have c4 := HO4.out.cell (Below.refl _ _)
        have K5 := Lib.hid K4.out.1
        have S5 := Lib.hid K4.out.2.1
        clear HRW K3 K4
        go_wp2
        clear c4
        obtain ⟨G1, hG1⟩ : ∃ G, G = gk := ⟨_, rfl⟩
        subst hG1
        go_loopg [5, 33] x.wr.length (fun m _ ix wr => ∃ k : Nat, m + k = x.wr.length ∧ ix = .int .i64 k ∧ RowD wr gw capw 78 2 (QF B gw 1 k) (x.wr.map wrD) ∧ RowO wr B l.length 81 6 (QC B B w2.heap.size i) (l.map cmdD) i 3 (.slice (some ⟨gw, 0, none⟩) x.wr.length capw) ∧ Below B w wr ∧ w2.heap.size ≤ wr.heap.size)
        case atStart => exact ⟨0, by omega, rfl, HR0.out, HO4.out, K5.out, S5.out⟩
        case round =>
          clear HR0 HO4 K5 S5
          rename World => w5
          obtain ⟨k, hmk, rfl, hrw, hro, hb5, hs5⟩ := hrel
          have HM2 := Lib.hid hmk
          have HRW := Lib.hid hrw
          have HRO := Lib.hid hro
          have K5 := Lib.hid hb5
          have S5 := Lib.hid hs5
          have hk : k ≤ x.wr.length := by omega
          have hk0 : (0 : Int) ≤ (k : Int) := by omega
          clear hmk hrw hro hb5 hs5
          by_cases hkl : k < x.wr.length
          · have hki : (k : Int) < x.wr.length := by omega
            have HKL := Lib.hid (And.intro hkl trivial)
            obtain ⟨q1, q2, q3⟩ := wr_at x.wr hkl
            obtain ⟨u, hcell, hfz, hrd⟩ := HRW.out.cell q1 q2
            rw [← q3] at hrd
            obtain ⟨da, dc, rfl, -⟩ := hrd.bslc
            have HRD := Lib.hid hrd
            have HQ := Lib.hid (fun (w' : World) (v' : Value) (hb : Below w5.heap.size w5 w') (hv : ReadsD (fun b => gw < b) w' v' (bytesD x.wr[k].delta)) => (HRW.out.on hb).put q1 q2 q3 hv (Nat.lt_irrefl gw) (QF.not (Nat.le_trans HBS.out HGW.out)) QF.step)
            have HCE := Lib.hid hcell
            have HCO := Lib.hid (fun (wq : World) (hq : Below w5.heap.size w5 wq) => HRO.out.cell hq)
            have HFZ := Lib.hid (And.intro HRW.out.lt fun (wq : World) (hq : Below w5.heap.size w5 wq) => frozen_on HRW.out hq (k * 2 + 1))
            clear hcell hfz hrd q3
            generalize x.wr[k] = y at *
            clear q1 q2 hkl
            go_upto_region 10 with fail
            refine region_loud [.is (.slice (some ⟨B, 0, none⟩) l.length l.length), .is (.int .i64 (i : Int)), .is (.pointer (some ⟨B, i * 6, none⟩)), .is (.pointer (some ⟨B, i * 6 + 3, none⟩)), .is (.slice (some ⟨gw, 0, none⟩) x.wr.length capw), .is (.int .i64 (k : Int)), .is (.slice (some ⟨B, 0, none⟩) l.length l.length), .is (.int .i64 (i : Int)), .is (.pointer (some ⟨B, i * 6, none⟩)), .is (.pointer (some ⟨B, i * 6 + 3, none⟩)), .is (.slice (some ⟨gw, 0, none⟩) x.wr.length capw), .is (.int .i64 (k : Int)), .is (.pointer (some ⟨gw, k * 2, none⟩)), .is (.pointer (some ⟨gw, k * 2 + 1, none⟩)), .is (.slice da y.delta.length dc), leftD w5.heap.size (bytesD y.delta), .is (.pointer (some ⟨gw, k * 2, none⟩)), .is (.pointer (some ⟨gw, k * 2 + 1, none⟩))] [] ((leftWr B gw capw l.length i (k + 1) w2.heap.size l x.wr (.slice (some ⟨gw, 0, none⟩) x.wr.length capw) w HBS.out)) 18 rfl _ rfl (by kernel_rfl) rfl (by kernel_rfl) (by kernel_rfl) (by kernel_rfl) (by kernel_rfl) (.cons ?a0 (.cons ?a1 (.cons ?a2 (.cons ?a3 (.cons ?a4 (.cons ?a5 (.cons ?a6 (.cons ?a7 (.cons ?a8 (.cons ?a9 (.cons ?a10 (.cons ?a11 (.cons ?a12 (.cons ?a13 (.cons ?a14 (.cons ?a15 (.cons ?a16 (.cons ?a17 .nil)))))))))))))))))) ?a18 (.nil) ?afin
            case a0 =>
              intro wq hbw st  K hK
              simp only [Act.put, List.setIfInBounds_toArray, List.set_cons_zero, List.set_cons_succ] at hK ⊢
              unfold opStep
              rw [if_pos (by rfl)]
              go_simp
              exact hK.out _ _ (Below.refl _ _) rfl _ rfl
            case a1 =>
              intro wq hbw st  K hK
              simp only [Act.put, List.setIfInBounds_toArray, List.set_cons_zero, List.set_cons_succ] at hK ⊢
              unfold opStep
              rw [if_pos (by rfl)]
              go_simp
              exact hK.out _ _ (Below.refl _ _) rfl _ rfl
            case a2 =>
              intro wq hbw st  K hK
              simp only [Act.put, List.setIfInBounds_toArray, List.set_cons_zero, List.set_cons_succ] at hK ⊢
              unfold opStep
              rw [if_pos (by rfl)]
              go_simp
              exact hK.out _ _ (Below.refl _ _) rfl _ rfl
            case a3 =>
              intro wq hbw st  K hK
              simp only [Act.put, List.setIfInBounds_toArray, List.set_cons_zero, List.set_cons_succ] at hK ⊢
              unfold opStep
              rw [if_pos (by rfl)]
              go_simp
              exact hK.out _ _ (Below.refl _ _) rfl _ rfl
            case a4 =>
              intro wq hbw st  K hK
              simp only [Act.put, List.setIfInBounds_toArray, List.set_cons_zero, List.set_cons_succ] at hK ⊢
              unfold opStep
              rw [if_pos (by rfl)]
              have d0 := HCO.out wq hbw
              go_simp
              exact hK.out _ _ (Below.refl _ _) rfl _ rfl
            case a5 =>
              intro wq hbw st  K hK
              simp only [Act.put, List.setIfInBounds_toArray, List.set_cons_zero, List.set_cons_succ] at hK ⊢
              unfold opStep
              rw [if_pos (by rfl)]
              go_simp
              exact hK.out _ _ (Below.refl _ _) rfl _ rfl
            case a6 =>
              intro wq hbw st  K hK
              simp only [Act.put, List.setIfInBounds_toArray, List.set_cons_zero, List.set_cons_succ] at hK ⊢
              unfold opStep
              rw [if_pos (by rfl)]
              go_simp
              exact hK.out _ _ (Below.refl _ _) rfl _ rfl
            case a7 =>
              intro wq hbw st  K hK
              simp only [Act.put, List.setIfInBounds_toArray, List.set_cons_zero, List.set_cons_succ] at hK ⊢
              unfold opStep
              rw [if_pos (by rfl)]
              go_simp
              exact hK.out _ _ (Below.refl _ _) rfl _ rfl
            case a8 =>
              intro wq hbw st  K hK
              simp only [Act.put, List.setIfInBounds_toArray, List.set_cons_zero, List.set_cons_succ] at hK ⊢
              unfold opStep
              rw [if_pos (by rfl)]
              go_simp
              exact hK.out _ _ (Below.refl _ _) rfl _ rfl
            case a9 =>
              intro wq hbw st  K hK
              simp only [Act.put, List.setIfInBounds_toArray, List.set_cons_zero, List.set_cons_succ] at hK ⊢
              unfold opStep
              rw [if_pos (by rfl)]
              go_simp
              exact hK.out _ _ (Below.refl _ _) rfl _ rfl
            case a10 =>
              intro wq hbw st  K hK
              simp only [Act.put, List.setIfInBounds_toArray, List.set_cons_zero, List.set_cons_succ] at hK ⊢
              unfold opStep
              rw [if_pos (by rfl)]
              have d0 := HCO.out wq hbw
              go_simp
              exact hK.out _ _ (Below.refl _ _) rfl _ rfl
            case a11 =>
              intro wq hbw st  K hK
              simp only [Act.put, List.setIfInBounds_toArray, List.set_cons_zero, List.set_cons_succ] at hK ⊢
              unfold opStep
              rw [if_pos (by rfl)]
              go_simp
              exact hK.out _ _ (Below.refl _ _) rfl _ rfl
            case a12 =>
              intro wq hbw st  K hK
              simp only [Act.put, List.setIfInBounds_toArray, List.set_cons_zero, List.set_cons_succ] at hK ⊢
              unfold opStep
              rw [if_pos (by rfl)]
              go_simp
              exact hK.out _ _ (Below.refl _ _) rfl _ rfl
            case a13 =>
              intro wq hbw st  K hK
              simp only [Act.put, List.setIfInBounds_toArray, List.set_cons_zero, List.set_cons_succ] at hK ⊢
              unfold opStep
              rw [if_pos (by rfl)]
              go_simp
              exact hK.out _ _ (Below.refl _ _) rfl _ rfl
            case a14 =>
              intro wq hbw st  K hK
              simp only [Act.put, List.setIfInBounds_toArray, List.set_cons_zero, List.set_cons_succ] at hK ⊢
              unfold opStep
              rw [if_pos (by rfl)]
              have d0 := HCE.out wq hbw
              go_simp
              exact hK.out _ _ (Below.refl _ _) rfl _ rfl
            case a15 =>
              intro wq hbw st  K hK
              simp only [Act.put, List.setIfInBounds_toArray, List.set_cons_zero, List.set_cons_succ] at hK ⊢
              unfold opStep
              rw [if_pos (by rfl)]
              go_simp
              refine (bytes_any (.slice da y.delta.length dc) y.delta wq (HRD.out.on hbw)).mono ?_
              rintro e wz ⟨vz, rfl, hbz, hvz⟩
              go_simp
              exact hK.out _ _ hbz (hvz.mono fun b hb _ => Nat.le_trans hbw.size hb) _ rfl
            case a16 =>
              intro wq hbw st x15 h15 K hK
              simp only [Act.put, List.setIfInBounds_toArray, List.set_cons_zero, List.set_cons_succ] at hK ⊢
              unfold opStep
              rw [if_pos (by rfl)]
              go_simp
              exact hK.out _ _ (Below.refl _ _) rfl _ rfl
            case a17 =>
              intro wq hbw st x15 h15 K hK
              simp only [Act.put, List.setIfInBounds_toArray, List.set_cons_zero, List.set_cons_succ] at hK ⊢
              unfold opStep
              rw [if_pos (by rfl)]
              go_simp
              exact hK.out _ _ (Below.refl _ _) rfl _ rfl
            case a18 =>
              intro wq hbw st x15 h15 K hK
              simp only [Act.put, List.setIfInBounds_toArray, List.set_cons_zero, List.set_cons_succ] at hK ⊢
              unfold opStep
              rw [if_pos (by rfl)]
              obtain ⟨oa, oc, rfl, -⟩ := ReadsD.bslc (show ReadsD (fun b => w5.heap.size ≤ b) wq x15 (bytesD y.delta) from h15)
              have c1 := HCE.out wq hbw
              have f1 := HFZ.out.2 wq hbw
              have l1 : gw < wq.heap.size := Nat.lt_of_lt_of_le HFZ.out.1 hbw.size
              go_simp
              have HN := HQ.out wq _ hbw (ReadsD.mono h15 fun b hb _ => by have := HFZ.out.1; omega)
              have HKS : Kept (fun b => b = gw) wq (wq.setCell ⟨gw, k * 2 + 1, none⟩ (.slice oa y.delta.length oc)) := Kept.set _ rfl
              exact hK.out undef _ ⟨HN, (HRO.out.on hbw).kept HKS (fun e => HGB.out e.symm) fun j k b hb => by have := HGW.out; have := HBS.out; unfold QC at hb; split at hb <;> omega, (K5.out.trans (hbw.mono (Nat.le_trans HBS.out S5.out))).setCell (p := ⟨gw, k * 2 + 1, none⟩) (Nat.le_trans HBS.out HGW.out) _, by simpa [World.setCell] using Nat.le_trans S5.out hbw.size⟩ _ rfl
            case afin =>
              intro wq
              intro x15 h15 x18 h18
              try simp only [FinAll]
              simp only [Act.put, List.setIfInBounds_toArray, List.set_cons_zero, List.set_cons_succ]
              obtain ⟨hN, hRO6, hK6, hS6⟩ : RowD wq gw capw 78 2 (QF B gw 1 (k + 1)) (x.wr.map wrD) ∧ RowO wq B l.length 81 6 (QC B B w2.heap.size i) (l.map cmdD) i 3 (.slice (some ⟨gw, 0, none⟩) x.wr.length capw) ∧ Below B w wq ∧ w2.heap.size ≤ wq.heap.size := h18
              have HN := Lib.hid hN
              have HRO6 := Lib.hid hRO6
              have K6 := Lib.hid hK6
              have S6 := Lib.hid hS6
              clear h15 HCE HCO HQ HRD HFZ HRO HRW K5 S5
              go_wp2
              go_roundg (x.wr.length - (k + 1))
              case measure => have := HM2.out; have := HKL.out.1; omega
              case rel => exact ⟨k + 1, by have := HKL.out.1; omega, by go_num, HN.out, HRO6.out, K6.out, S6.out⟩
          · have hki : ¬ (k : Int) < x.wr.length := by omega
            have hke : k = x.wr.length := by omega
            have HR5 : Hid (RowD w5 B l.length 81 6 (QM B B w5.heap.size i) (l.map cmdD)) := Lib.hid (HCLOSE.out w5 _ S5.out HRO.out (by
              have h1 := RowD.reads (P := fun b => B < b ∧ b < w5.heap.size) (Q := fun _ _ b => B < b ∧ b < w5.heap.size) (((HRW.out.mono (Q' := fun j m b => QF B gw 1 k j m b ∧ b < w5.heap.size) fun _ _ _ a b => ⟨a, b⟩)).vals fun j hj m hm => by
                by_cases hm1 : m = 1
                · right
                  intro b hb
                  have h2 := hb.1
                  unfold QF at h2
                  rw [if_pos ⟨hm1, by rw [hke]; simpa using hj⟩] at h2
                  have := HGW.out; have := HBS.out
                  omega
                · exact .inl (wr_val x.wr j hj m hm hm1)) (by have := HGW.out; have := HBS.out; have := HRW.out.lt; have := HGB.out; omega) fun _ _ _ hb _ => hb
              unfold wrsD
              simpa using h1))
            clear HCLOSE HRW HRO hke
            obtain ⟨ut, ct, hc5, hf5, hl5, hr5, hput⟩ := HTAG.out w5 HR5.out
            have HCALL := Lib.hid (bytes_any (.slice ut x.tag.length ct) x.tag w5 hr5)
            have c0 := hc5 w5 (Below.refl _ _)
            have HT5 := Lib.hid (And.intro hc5 (And.intro hf5 (And.intro hl5 hput)))
            clear hc5 hf5 hl5 hr5 hput HTAG
            go_wp2_with fail
            refine HCALL.out.mono ?_
            rintro e w6 ⟨v6, rfl, hb6, hv6⟩
            obtain ⟨oa, oc, rfl, -⟩ := hv6.bslc
            have HN := Lib.hid (HT5.out.2.2.2 w6 _ hb6 hv6)
            have c1 := HT5.out.1 w6 hb6
            have f1 := HT5.out.2.1 w6 hb6
            have l1 : B < w6.heap.size := Nat.lt_of_lt_of_le HT5.out.2.2.1 hb6.size
            have K6 := Lib.hid ((K5.out.trans (hb6.mono (Nat.le_of_lt HT5.out.2.2.1))).setCell (p := ⟨B, i * 6 + 5, none⟩) (Nat.le_refl B) (.slice oa x.tag.length oc))
            clear HCALL HT5 hb6 hv6 c0 K5 HR5
            go_wp2
            go_roundg (l.length - (i + 1))
            case measure => have := HM.out; have := HLT.out.1; omega
            case rel => exact ⟨i + 1, by have := HLT.out.1; omega, by go_num, by simpa [World.setCell] using HN.out, K6.out⟩
    · have hii : ¬ (i : Int) < l.length := by omega
      have e : i = l.length := by omega
      have HF : Hid (ReadsD (fun b => w.heap.size ≤ b) w2 (.slice (some ⟨B, 0, none⟩) l.length l.length) (cmdsD l)) := Lib.hid (by
        have h1 := RowD.reads (P := fun b => w.heap.size ≤ b) (Q := fun _ _ b => w.heap.size ≤ b) (HROW.out.vals fun j hj k hk => by
          by_cases hk2 : k = 3 ∨ k = 5
          · right
            intro b hb
            unfold QC at hb
            rw [if_pos ⟨hk2, by rw [e]; simpa using hj⟩] at hb
            have := HBW.out
            omega
          · exact .inl (cmd_val l j hj k hk (fun q => hk2 (.inl q)) (fun q => hk2 (.inr q)))) (Nat.le_of_eq HBW.out.symm) fun _ _ _ hb _ => hb
        unfold cmdsD
        simpa using h1)
      have HE := Lib.hid (show Below w.heap.size w w2 by have h := K2.out; rwa [HBW.out] at h)
      clear e
      go_wp2
      go_ret
      exact ⟨_, rfl, HE.out, HF.out⟩
end Go.Proofs.Ytmcdmcnbnnfhnaa
