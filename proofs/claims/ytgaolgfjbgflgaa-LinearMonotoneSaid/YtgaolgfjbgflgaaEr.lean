/-
  Chapter 56: linear.Earliest.
-/
import Derived.Test.YtgaolgfjbgflgaaLj
import Derived.Test.YtgaolgfjbgflgaaSo
import Derived.Test.YtgaolgfjbgflgaaWr
import Derived.Test.YtgaolgfjbgflgaaHg
namespace Go.Proofs.Ytgaolgfjbgflgaa
open Go.RowKit

def timesO (o : Opn) : List Int := [begO o, max (begO o) (endO o)]
/-- The times at which something begins or ends. -/
def timesL (h : List Opn) : List Int := h.flatMap timesO
theorem timesL_len : ∀ h : List Opn, (timesL h).length = 2 * h.length
  | [] => rfl
  | a :: h => by
    have := timesL_len h
    unfold timesL at *
    rw [List.flatMap_cons, List.length_append, this]
    simp [timesO]; omega
theorem timesL_snoc {h : List Opn} {k : Nat} (hk : k < h.length) : timesL (h.take (k + 1)) = timesL (h.take k) ++ timesO h[k] := by
  unfold timesL
  rw [List.take_succ_eq_append_getElem hk, List.flatMap_append]
  simp
def timesS (h : List Opn) : List Int := Lib.compact (sortI (timesL h))
theorem timesS_len (h : List Opn) : (timesS h).length ≤ 2 * h.length := by
  unfold timesS
  have h1 := Lib.compact_length_le (sortI (timesL h))
  rw [sortI_len, timesL_len] at h1
  exact h1
/-- The history up to a time has no linearization. -/
def badAt (h : List Opn) (t : Int) : Bool := !G (cutL h t) 0
def earL (h : List Opn) : Int × Bool := match (timesS h).find? (badAt h) with | some t => (t, true) | none => (0, false)
theorem ear_at {h : List Opn} {k : Nat} (hk : k < (timesS h).length) (hp : badAt h (timesS h)[k] = true) (hn : ∀ j (hj : j < (timesS h).length), j < k → badAt h (timesS h)[j] = false) : earL h = ((timesS h)[k], true) := by
  unfold earL
  rw [List.find?_eq_some_iff_getElem.2 ⟨hp, k, hk, rfl, fun j hj => by rw [hn j (by omega) hj]; rfl⟩]
theorem ear_none {h : List Opn} (hn : ∀ j (hj : j < (timesS h).length), badAt h (timesS h)[j] = false) : earL h = (0, false) := by
  unfold earL
  rw [List.find?_eq_none.2 fun x hx => by
    obtain ⟨j, hj, rfl⟩ := List.getElem_of_mem hx
    rw [hn j hj]; exact Bool.false_ne_true]
theorem small_cut {h : List Opn} (hs : SmallH h) (t : Int) : SmallH (cutL h t) := by
  refine ⟨Nat.le_trans (cutL_len h t) hs.1, fun o ho => ?_⟩
  unfold cutL at ho
  obtain ⟨x, hx, rfl⟩ := List.mem_map.1 ho
  have hx2 := hs.2 x (List.mem_filter.1 hx).1
  unfold cutO
  split
  · exact ⟨hx2.1, Nat.zero_le _, hx2.2.2.1, fun s hs => by cases hs⟩
  · exact hx2
theorem two_readsI (w : World) (o : Obj) (x y : Int) : Reads vi ((w.alloc o).alloc (.cells #[.int .i64 x, .int .i64 y] 3)) (.slice (some ⟨w.heap.size + 1, 0, none⟩) 2 2) [x, y] := by
  have h0 : ∀ w : World, Reads vi (w.alloc (.cells #[.int .i64 x, .int .i64 y] 3)) (.slice (some ⟨w.heap.size, 0, none⟩) 2 2) [x, y] := fun w =>
    Reads.at (xs := [x, y]) (Nat.le_refl 2) (by unfold maxLen; omega) (by simp) fun j hj => by
      have h0 : j = 0 ∨ j = 1 := by simp at hj; omega
      rcases h0 with rfl | rfl
      · exact (Blk.new w 3 #[.int .i64 x, .int .i64 y]).cell 0
      · exact (Blk.new w 3 #[.int .i64 x, .int .i64 y]).cell 1
  have h1 := h0 (w.alloc o)
  rwa [World.size_alloc] at h1
/-- What Earliest gives: a time, whether there is one, a code. -/
def EarMade (w : World) (h : List Opn) (e : Ending) (w' : World) : Prop :=
  ∃ t b c, e = .returned (.tuple #[.int .i64 t, .bool b, .int .i64 c]) ∧ ((¬ (chkL h).2 = 0 ∧ t = 0 ∧ b = false ∧ c = 1) ∨ ((chkL h).2 = 0 ∧ earL h = (t, b) ∧ c = 0)) ∧ Below w.heap.size w w'
theorem wrap_one {n : Nat} (hn : n ≤ 16) : IntKind.i64.wrap ((n : Int) + 1) = (n : Int) + 1 := by
  simp [IntKind.wrap, IntKind.bits, IntKind.signed]
  omega
theorem budget_many {n : Nat} {bud : Int} (hb : bud = (((n + 1) * 2 ^ n : Nat) : Int)) : ¬ bud ≤ ((n * 2 ^ n : Nat) : Int) := by
  have h0 : 0 < 2 ^ n := Nat.two_pow_pos n
  have h1 : (n + 1) * 2 ^ n = n * 2 ^ n + 2 ^ n := by rw [Nat.add_mul, Nat.one_mul]
  omega
theorem shl_bud {n : Nat} (hn : n ≤ 16) : IntKind.i64.wrap (((n : Int) + 1) * 2 ^ n) = (((n + 1) * 2 ^ n : Nat) : Int) := by
  have h0 : 2 ^ n ≤ 65536 := Nat.pow_le_pow_right (by omega) hn
  have h1 : (n + 1) * 2 ^ n ≤ 17 * 65536 := Nat.mul_le_mul (by omega) h0
  have e : ((n : Int) + 1) * 2 ^ n = (((n + 1) * 2 ^ n : Nat) : Int) := by simp
  rw [e]
  generalize (n + 1) * 2 ^ n = m at *
  simp [IntKind.wrap, IntKind.bits, IntKind.signed]
  omega

set_option maxRecDepth 100000 in
set_option maxHeartbeats 16000000 in
theorem ear_any (v : Value) (h : List Opn) (W : World) (hr : ReadsO W v h) (hs : SmallH h) (hn : h.length ≤ 16) : Calls Try.prog 21 #[v] W (EarMade W h) := by
  have HR := Lib.hid hr
  have HS := Lib.hid hs
  have HC := Lib.hid (lcheck_any v h W hr hs hn)
  obtain ⟨ao, cap, rfl, hl, hcm, -, -⟩ := hr
  unfold maxLen at hcm
  clear hs
  go_enter Try.func21, Try.ntmps21
  by_cases h0 : (chkL h).2 = 0
  · have H0 := Lib.hid h0
    rw [if_pos h0] at HC
    clear h0
    go_wp2_with fail
    refine HC.out.mono ?_
    rintro e w1 ⟨rfl, hb1⟩
    have KW1 := Lib.hid hb1
    clear hb1 HC
    go_wp2
    go_loopg [6, 21] h.length (fun m o i wr => ∃ k : Nat, m + k = h.length ∧ i = .int .i64 k ∧ wr.ownsRow w1.heap.size 3 1 o (timesL (h.take k)).length ((timesL (h.take k)).map vi) ∧ Below w1.heap.size w1 wr)
    case atStart => exact ⟨0, by omega, rfl, by simp [timesL, World.ownsRow], Below.refl _ _⟩
    case round =>
      obtain ⟨k, hmk, rfl, hown, hbel⟩ := hrel
      have HM := Lib.hid hmk
      have HO := Lib.hid hown
      have KB := Lib.hid hbel
      have KW := Lib.hid (KW1.out.trans (hbel.mono KW1.out.size))
      have hk : k ≤ h.length := by omega
      have HTL : Hid ((timesL (h.take k)).length = 2 * k) := Lib.hid (by rw [timesL_len, List.length_take, Nat.min_eq_left hk])
      clear hmk hown hbel
      by_cases hlt : k < h.length
      · obtain ⟨b, off, cap1, a4, c4, a5, c5, hv, _, _, hm4, hm5, hl4, hl5, hcell, r1, r2⟩ := HR.out.at2 hlt
        injection hv with e1 e2 e3
        subst e1
        have hki : (k : Int) < h.length := by omega
        have hk0 : (0 : Int) ≤ (k : Int) := by omega
        have HSN := Lib.hid (timesL_snoc hlt)
        have dd := Lib.hid (hcell wr KW.out)
        have x0 := dd.out.1
        have x1 := dd.out.2.1
        have x2 := dd.out.2.2.1
        have x3 := dd.out.2.2.2.1
        have x4 := dd.out.2.2.2.2.1
        have x5 := dd.out.2.2.2.2.2
        clear e2 e3 hcell r1 r2 dd
        generalize h[k] = x at *
        have HBX : Hid (∀ o o2, Below wr.heap.size wr ((wr.alloc o).alloc o2)) := Lib.hid fun o o2 => ((Below.refl _ _).alloc (Nat.le_refl _) o).alloc (by simp) o2
        have HRX := Lib.hid (fun o => two_readsI wr o (begO x) (max (begO x) (endO x)))
        have HSZ : Hid (∀ o o2, w1.heap.size ≤ ((wr.alloc o).alloc o2).heap.size) := Lib.hid fun o o2 => Nat.le_trans KB.out.size (HBX.out o o2).size
        have HLE : Hid ((timesL (h.take k)).length + 2 ≤ 1000000) := Lib.hid (by have := HTL.out; omega)
        go_wp2_with (at_builtin; refine appendi_reads2 rfl (.tmp 25) (.tmp 33) rfl w1.heap.size _ (.slice (some ⟨wr.heap.size + 1, 0, none⟩) 2 2) (timesL (h.take k)).length (timesL (h.take k)) [begO x, max (begO x) (endO x)] rfl (below_row HO.out (HBX.out _ _)) rfl (HRX.out _) HLE.out (HSZ.out _ _) ?_)
        intro v8 w8 hown8 hgr8
        have K8 : Hid (Below w1.heap.size w1 w8) := Lib.hid ((KB.out.trans ((HBX.out _ _).mono KB.out.size)).grown hgr8 (HSZ.out _ _) (fun j hj => (HO.out.lt j hj).1))
        have HO8 : Hid (w8.ownsRow w1.heap.size 3 1 v8 (timesL (h.take (k + 1))).length ((timesL (h.take (k + 1))).map vi)) := Lib.hid (by rw [HSN.out, List.length_append, List.map_append]; exact hown8)
        clear hown8 hgr8 x0 x1 x2 x3 x4 x5
        go_wp2
        go_roundg (h.length - (k + 1))
        case measure => have := HM.out; omega
        case rel => exact ⟨k + 1, by omega, by go_num, HO8.out, K8.out⟩
      · have HOA : Hid (wr.ownsRow w1.heap.size 3 1 u6 (timesL h).length ((timesL h).map vi)) := Lib.hid (by have h9 := HO.out; rwa [List.take_of_length_le (show h.length ≤ k by omega)] at h9)
        have HSO := Lib.hid (sortI_own HOA.out KB.out (by rw [timesL_len]; omega))
        clear HO HTL
        obtain ⟨G2, hG2⟩ : ∃ G, G = gk := ⟨_, rfl⟩
        subst hG2
        go_wp2_with fail
        refine HSO.out.mono ?_
        rintro e w2 ⟨rfl, hown2, hb2⟩
        have HCO := Lib.hid (compactI_own hown2 hb2 (by rw [sortI_len, timesL_len]; omega))
        clear hown2 hb2 HSO HOA
        go_wp2_with fail
        refine HCO.out.mono ?_
        rintro e w3 ⟨v3, rfl, hr3, hb3⟩
        replace hr3 : Reads vi w3 v3 (timesS h) := hr3
        have HT := Lib.hid hr3
        have KW3 := Lib.hid (KW1.out.trans (hb3.mono KW1.out.size))
        have HTN := Lib.hid (timesS_len h)
        have HEA := Lib.hid (fun k hk => ear_at (h := h) (k := k) hk)
        have HEN := Lib.hid (ear_none (h := h))
        obtain ⟨ta, tk, rfl, htk, htl⟩ := slcI2 hr3
        have htn := HTN.out
        clear hr3 hb3 HCO KW KB
        have HTG : Hid (Reads vi w3 (.slice ta (timesS h).length tk) (timesS h)) := Lib.hid HT.out
        generalize timesS h = T at *
        clear HT
        go_wp2
        go_loopg [41] T.length (fun m i wr => ∃ q : Nat, m + q = T.length ∧ i = .int .i64 q ∧ (∀ j (hj : j < T.length), j < q → badAt h T[j] = false) ∧ Below W.heap.size W wr ∧ Below w3.heap.size w3 wr)
        case atStart => exact ⟨0, by omega, rfl, (fun j hj h => by omega), KW3.out, Below.refl _ _⟩
        case round =>
          obtain ⟨q, hmq, rfl, hall, hbel, hbel3⟩ := hrel
          have HM2 := Lib.hid hmq
          have HALL := Lib.hid hall
          have KW4 := Lib.hid hbel
          have KT := Lib.hid hbel3
          have hq : q ≤ T.length := by omega
          clear hmq hall hbel hbel3
          by_cases hql : q < T.length
          · obtain ⟨bo, oo, co, hv, hbo, hco⟩ := int_at HTG.out hql
            injection hv with e1 e2 e3
            subst e1
            have hqi : (q : Int) < T.length := by omega
            have hq0 : (0 : Int) ≤ (q : Int) := by omega
            have q0 := (KT.out.cell (p := ⟨bo, oo + q, none⟩) hbo).trans hco
            have HYES := Lib.hid (fun hp => HEA.out q hql hp HALL.out)
            have HNX : Hid (badAt h T[q] = false → ∀ j (hj : j < T.length), j < q + 1 → badAt h T[j] = false) := Lib.hid fun hp j hj hlt => by
              by_cases e : j = q
              · subst e; exact hp
              · exact HALL.out j hj (by omega)
            have HCU := Lib.hid (cut_any _ h T[q] wr (HR.out.on KW4.out) HS.out)
            have HSC := Lib.hid (small_cut HS.out T[q])
            have HCL := Lib.hid (cutL_len h T[q])
            have HBA : Hid (badAt h T[q] = !G (cutL h T[q]) 0) := Lib.hid rfl
            unfold vi at q0
            clear e2 e3 hco hbo
            generalize T[q] = t at *
            go_wp2_with fail
            refine HCU.out.mono ?_
            rintro e w4 ⟨v4, rfl, hr4, hb4⟩
            have HR4 := Lib.hid hr4
            have KW5 := Lib.hid (KW4.out.trans (hb4.mono KW4.out.size))
            have KT5 := Lib.hid (KT.out.trans (hb4.mono KT.out.size))
            obtain ⟨ao4, cap4, rfl, hl4, hcm4, -, -⟩ := hr4
            unfold maxLen at hcm4
            clear hb4 HCU
            have hcl := HCL.out
            generalize cutL h t = c at *
            have hc16 : c.length ≤ 16 := by omega
            have HSB := Lib.hid (shl_bud hc16)
            generalize hbud : (((c.length + 1) * 2 ^ c.length : Nat) : Int) = bud at *
            have HBU := Lib.hid (budget_many hbud.symm)
            clear hbud
            go_wp2_with fail
            refine region_loud [.is (.slice ao4 c.length cap4), .has (fun x w => ∃ gs gm, x = .pointer (some ⟨gs, 0, none⟩) ∧ w4.heap.size ≤ gs ∧ w4.heap.size ≤ gm ∧ gs ≠ gm ∧ SrA w4 w gs gm (srchA (.slice ao4 c.length cap4) (mustK c c.length) (fun j => if j < c.length then maskP (prI c j) c.length else 0) gm 0)) (fun _ _ _ hb ⟨gs, gm, a, b, d, f, g⟩ => ⟨gs, gm, a, b, d, f, g.on' hb⟩), .is (.slice ao4 c.length cap4), .is (.int .i64 (c.length : Nat)), .is (.int .i64 ((c.length : Int) + 1)), .is (.slice ao4 c.length cap4), .is (.int .i64 (c.length : Nat)), .is (.int .i64 bud)] [.is (.tuple #[.bool (G c 0), .bool false]), .is (.bool (G c 0)), .is (.bool false), .is (.bool (G c 0)), .is (.bool false)] (.has (fun x w => x = .tuple #[.bool (G c 0), .bool false] ∧ Below w4.heap.size w4 w) (fun _ _ _ hb ⟨a, b⟩ => ⟨a, b.trans (hb.mono b.size)⟩)) 8 rfl _ rfl (by kernel_rfl) rfl (by kernel_rfl) (by kernel_rfl) (by kernel_rfl) (by kernel_rfl) (.cons ?q0 (.cons ?q1 (.cons ?q2 (.cons ?q3 (.cons ?q4 (.cons ?q5 (.cons ?q6 (.cons ?q7 .nil)))))))) ?q8 (.cons ?q9 (.cons ?q10 (.cons ?q11 (.cons ?q12 (.cons ?q13 .nil))))) ?qfin
            case q0 =>
              intro wq hbw st  K hK
              simp only [Act.put, List.setIfInBounds_toArray, List.set_cons_zero, List.set_cons_succ] at hK ⊢
              unfold opStep
              rw [if_pos (by rfl)]
              go_simp
              exact hK.out _ _ (Below.refl _ _) rfl _ rfl
            case q1 =>
              intro wq hbw st  K hK
              simp only [Act.put, List.setIfInBounds_toArray, List.set_cons_zero, List.set_cons_succ] at hK ⊢
              unfold opStep
              rw [if_pos (by rfl)]
              go_simp
              have hpc := start_any (.slice ao4 c.length cap4) c wq (HR4.out.on hbw) hc16
              refine hpc.mono ?_
              rintro e wz ⟨gs, gm, rfl, a1, a2, a3, a4, a5, a6⟩
              have hsz := hbw.size
              try go_simp
              exact hK.out _ _ a6 ⟨gs, gm, rfl, Nat.le_trans hsz a1, Nat.le_trans hsz a2, a3, a4, a5, hbw.trans (a6.mono hbw.size)⟩ _ rfl
            case q2 =>
              intro wq hbw st  K hK
              simp only [Act.put, List.setIfInBounds_toArray, List.set_cons_zero, List.set_cons_succ] at hK ⊢
              unfold opStep
              rw [if_pos (by rfl)]
              go_simp
              exact hK.out _ _ (Below.refl _ _) rfl _ rfl
            case q3 =>
              intro wq hbw st  K hK
              simp only [Act.put, List.setIfInBounds_toArray, List.set_cons_zero, List.set_cons_succ] at hK ⊢
              unfold opStep
              rw [if_pos (by rfl)]
              go_simp
              exact hK.out _ _ (Below.refl _ _) rfl _ rfl
            case q4 =>
              intro wq hbw st  K hK
              simp only [Act.put, List.setIfInBounds_toArray, List.set_cons_zero, List.set_cons_succ] at hK ⊢
              unfold opStep
              rw [if_pos (by rfl)]
              have hw1 := wrap_one hc16
              go_simp
              exact hK.out _ _ (Below.refl _ _) rfl _ rfl
            case q5 =>
              intro wq hbw st  K hK
              simp only [Act.put, List.setIfInBounds_toArray, List.set_cons_zero, List.set_cons_succ] at hK ⊢
              unfold opStep
              rw [if_pos (by rfl)]
              go_simp
              exact hK.out _ _ (Below.refl _ _) rfl _ rfl
            case q6 =>
              intro wq hbw st  K hK
              simp only [Act.put, List.setIfInBounds_toArray, List.set_cons_zero, List.set_cons_succ] at hK ⊢
              unfold opStep
              rw [if_pos (by rfl)]
              go_simp
              exact hK.out _ _ (Below.refl _ _) rfl _ rfl
            case q7 =>
              intro wq hbw st  K hK
              simp only [Act.put, List.setIfInBounds_toArray, List.set_cons_zero, List.set_cons_succ] at hK ⊢
              unfold opStep
              rw [if_pos (by rfl)]
              have hsb := HSB.out
              go_simp
              exact hK.out _ _ (Below.refl _ _) rfl _ rfl
            case q8 =>
              intro wq hbw st x1 h1 K hK
              simp only [Act.put, List.setIfInBounds_toArray, List.set_cons_zero, List.set_cons_succ] at hK ⊢
              unfold opStep
              rw [if_pos (by rfl)]
              go_simp
              obtain ⟨gs, gm, rfl, a1, a2, a3, a4⟩ := h1
              have hfd : Fd w4 wq gs gm (.slice ao4 c.length cap4) c ((0 : Nat) : Int) 0 (fun _ => none) := ⟨a4.1, MapAt.ofEmpty entT a4.2.1, a1, a2, a3, a4.2.2⟩
              have hpc := find_any w4 gs gm (.slice ao4 c.length cap4) c HR4.out HSC.out hc16 (freeK 0 c.length + 1) 0 bud (fun _ => none) [] 0 0 0 wq (by omega) (Nat.two_pow_pos _) hfd ⟨(fun s e hq => by cases hq), List.nodup_nil, (fun s hq => by cases hq), (fun s hq => by cases hq), Nat.le_refl _, Nat.zero_le _⟩ (fun s hq => by cases hq)
              refine hpc.mono ?_
              rintro e wz (⟨M, E, n3, st3, rfl, f3, -, -, -, -⟩ | ⟨rfl, hbu, -⟩)
              · try go_simp
                exact hK.out _ _ ⟨rfl, f3.bel⟩ _ rfl
              · exact absurd hbu (by have h9 := HBU.out; omega)
            case q9 =>
              intro wq _ st x8 h8 K hK
              simp only [Act.put, List.setIfInBounds_toArray, List.set_cons_zero, List.set_cons_succ] at hK ⊢
              unfold opStep
              rw [if_pos (by rfl)]
              obtain ⟨rfl, _⟩ := h8
              go_simp
              exact hK.out _ _ (Below.refl _ _) rfl _ rfl
            case q10 =>
              intro wq _ st  K hK
              simp only [Act.put, List.setIfInBounds_toArray, List.set_cons_zero, List.set_cons_succ] at hK ⊢
              unfold opStep
              rw [if_pos (by rfl)]
              go_simp
              exact hK.out _ _ (Below.refl _ _) rfl _ rfl
            case q11 =>
              intro wq _ st  K hK
              simp only [Act.put, List.setIfInBounds_toArray, List.set_cons_zero, List.set_cons_succ] at hK ⊢
              unfold opStep
              rw [if_pos (by rfl)]
              go_simp
              exact hK.out _ _ (Below.refl _ _) rfl _ rfl
            case q12 =>
              intro wq _ st x1 h1 x8 h8 K hK
              simp only [Act.put, List.setIfInBounds_toArray, List.set_cons_zero, List.set_cons_succ] at hK ⊢
              unfold opStep
              rw [if_pos (by rfl)]
              obtain ⟨rfl, _⟩ := h8
              go_simp
              exact hK.out _ _ (Below.refl _ _) rfl _ rfl
            case q13 =>
              intro wq _ st x1 h1 x8 h8 K hK
              simp only [Act.put, List.setIfInBounds_toArray, List.set_cons_zero, List.set_cons_succ] at hK ⊢
              unfold opStep
              rw [if_pos (by rfl)]
              obtain ⟨rfl, _⟩ := h8
              go_simp
              exact hK.out _ _ (Below.refl _ _) rfl _ rfl
            case qfin =>
              intro wq
              intro x1 h1 x8 h8
              try simp only [FinAll]
              simp only [Act.put, List.setIfInBounds_toArray, List.set_cons_zero, List.set_cons_succ]
              obtain ⟨rfl, hb8⟩ := h8
              have KW6 := Lib.hid (KW5.out.trans (hb8.mono KW5.out.size))
              have KT6 := Lib.hid (KT5.out.trans (hb8.mono KT5.out.size))
              clear hb8
              cases hg : G c 0 with
              | false =>
                have HE := Lib.hid (HYES.out (by rw [HBA.out, hg]; rfl))
                clear hg
                go_wp2
                refine bodyPost_ret (v := .tuple #[.int .i64 t, .bool true, .int .i64 0]) (by simp [results, Try.results21, go_sem]) rfl ?_
                exact ⟨t, true, 0, rfl, .inr ⟨H0.out, HE.out, rfl⟩, KW6.out⟩
              | true =>
                have HG := Lib.hid (HNX.out (by rw [HBA.out, hg]; rfl))
                clear hg
                go_wp2
                go_roundg (T.length - (q + 1))
                case measure => have := HM2.out; omega
                case rel => exact ⟨q + 1, by omega, by go_num, HG.out, KW6.out, KT6.out⟩
          · have HE := Lib.hid (HEN.out fun j hj => HALL.out j hj (by omega))
            have hqi : ¬ (q : Int) < T.length := by omega
            go_wp2
            refine bodyPost_ret (v := .tuple #[.int .i64 0, .bool false, .int .i64 0]) (by simp [results, Try.results21, go_sem]) rfl ?_
            exact ⟨0, false, 0, rfl, .inr ⟨H0.out, HE.out, rfl⟩, KW4.out⟩
  · have H0 := Lib.hid h0
    rw [if_neg h0] at HC
    clear h0
    go_wp2_with fail
    refine HC.out.mono ?_
    rintro e w1 ⟨rfl, hb1⟩
    have KW1 := Lib.hid hb1
    clear hb1 HC
    go_wp2
    refine bodyPost_ret (v := .tuple #[.int .i64 0, .bool false, .int .i64 1]) (by simp [results, Try.results21, go_sem]) rfl ?_
    exact ⟨0, false, 1, rfl, .inl ⟨H0.out, rfl, rfl, rfl⟩, KW1.out⟩
end Go.Proofs.Ytgaolgfjbgflgaa
