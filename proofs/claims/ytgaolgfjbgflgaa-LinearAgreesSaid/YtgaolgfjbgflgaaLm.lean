/-
  Chapter 56: the counting of continuations.
-/
import Derived.Test.YtgaolgfjbgflgaaLj
import Derived.Test.YtgaolgfjbgflgaaLk
import Derived.Test.YtgaolgfjbgflgaaLh
namespace Go.Proofs.Ytgaolgfjbgflgaa
open Go.RowKit Go.Maps

def cntD (v : Value) : Option Int := match v with
  | .int .i64 n => some n
  | _ => none
/-- map[uint32]int. -/
noncomputable def cntT : MapTy Nat Int where
  t := 63
  k := 54
  e := 3
  kd := int_keyed Try.underlying54
  ht := Try.underlying63
  kv := fun s => .int .u32 (s : Int)
  kl := fun s => .int .u32 (s : Int)
  ok := fun s => s < 4294967296
  hkey := fun _ h => keyU32 h
  klit := fun _ => trivial
  kinj := fun s s' h => by injection h with _ h; omega
  V := fun n => .int .i64 n
  dec := cntD
  Dt := fun n => .lit (.int .i64 n)
  dV := fun _ => rfl
  Vd := fun v a h => by
    unfold cntD at h
    split at h
    · injection h with h; subst h; rfl
    · cases h
  Dinj := fun a b h => by
    injection h with h
    injection h
  z0 := 0
  hz := fun w => Try.zeroValue3 w

def cloV (gw gp gh gl gc : Nat) : Value := .func (.func 33) #[] #[.pointer (some ⟨gw, 0, none⟩), .pointer (some ⟨gp, 0, none⟩), .pointer (some ⟨gh, 0, none⟩), .pointer (some ⟨gl, 0, none⟩), .pointer (some ⟨gc, 0, none⟩)]
/-- What counting works on. -/
structure Cw (W0 w : World) (gw gp gh gl gc gs gm : Nat) (hv : Value) (h : List Opn) (lim : Int) (n : Nat) (K : Known) : Prop where
  bk : Blk w gw 63 #[.map (some gm)]
  bp : Blk w gp 50 #[.pointer (some ⟨gs, 0, none⟩)]
  bh : Blk w gh 22 #[hv]
  bl : Blk w gl 3 #[.int .i64 lim]
  bc : Blk w gc 64 #[cloV gw gp gh gl gc]
  bs : ∃ gq, Blk w gs 58 (srchA hv (mustK h h.length) (aftN h) gq 0)
  map : MapAt cntT w gm n K
  ne : gm ≠ gw ∧ gm ≠ gp ∧ gm ≠ gh ∧ gm ≠ gl ∧ gm ≠ gc ∧ gm ≠ gs
  bm : W0.heap.size ≤ gm
  bel : Below W0.heap.size W0 w
section
variable {W0 w w' : World} {gw gp gh gl gc gs gm n : Nat} {hv : Value} {h : List Opn} {lim : Int} {K : Known}
theorem Cw.on (f : Cw W0 w gw gp gh gl gc gs gm hv h lim n K) (hb : Below w.heap.size w w') : Cw W0 w' gw gp gh gl gc gs gm hv h lim n K :=
  ⟨f.bk.on hb, f.bp.on hb, f.bh.on hb, f.bl.on hb, f.bc.on hb, f.bs.elim fun q hq => ⟨q, hq.on hb⟩, f.map.on hb, f.ne, f.bm, f.bel.trans (hb.mono f.bel.size)⟩
theorem blk_grown {g b : Nat} {t : TypeId} {cs : Array Value} (h : Blk w g t cs) (hg : w.grownBy w' (some b)) (hne : b ≠ g) : Blk w' g t cs := (hg.block g h.lt (fun e => hne (by injection e with e; exact e.symm))).trans h
theorem Cw.put (f : Cw W0 w gw gp gh gl gc gs gm hv h lim n K) {K' : Known} {n' : Nat} (hm : MapAt cntT w' gm n' K') (hg : w.grownBy w' (some gm)) : Cw W0 w' gw gp gh gl gc gs gm hv h lim n' K' :=
  ⟨blk_grown f.bk hg f.ne.1, blk_grown f.bp hg f.ne.2.1, blk_grown f.bh hg f.ne.2.2.1, blk_grown f.bl hg f.ne.2.2.2.1, blk_grown f.bc hg f.ne.2.2.2.2.1, f.bs.elim fun q hq => ⟨q, blk_grown hq hg f.ne.2.2.2.2.2⟩, hm, f.ne, f.bm,
    f.bel.grown hg f.bel.size (fun j hj => by injection hj with hj; subst hj; exact f.bm)⟩
end
def CntPost (W0 : World) (gw gp gh gl gc gs gm : Nat) (hv : Value) (h : List Opn) (lim : Int) (m : Nat) (K : Known) (e : Ending) (w' : World) : Prop :=
  e = .returned (.int .i64 (capC lim (C h m))) ∧ ∃ K' E' n', Cw W0 w' gw gp gh gl gc gs gm hv h lim n' K' ∧ Kn h lim K' E' n' ∧ ∀ s, (K' s).isSome = true → (K s).isSome = true ∨ Sub m s

set_option maxRecDepth 100000 in
set_option maxHeartbeats 16000000 in
theorem count_any (W0 : World) (gw gp gh gl gc gs gm : Nat) (hv : Value) (h : List Opn) (lim : Int) (hr : ReadsO W0 hv h) (hs : SmallH h) (hn : h.length ≤ 16) (hlim : 1 ≤ lim) (hl63 : lim ≤ 9223372036854775807) :
    ∀ (d m : Nat) (K : Known) (E : List Nat) (n : Nat) (w : World), freeK m h.length < d → m < 2 ^ h.length → Cw W0 w gw gp gh gl gc gs gm hv h lim n K → Kn h lim K E n →
      Calls Try.prog 33 #[.int .u32 (m : Int), .pointer (some ⟨gw, 0, none⟩), .pointer (some ⟨gp, 0, none⟩), .pointer (some ⟨gh, 0, none⟩), .pointer (some ⟨gl, 0, none⟩), .pointer (some ⟨gc, 0, none⟩)] w (CntPost W0 gw gp gh gl gc gs gm hv h lim m K) := by
  have HR := Lib.hid hr
  have HS := Lib.hid hs
  obtain ⟨ao, cap, rfl, hl, hcm, -, -⟩ := hr
  unfold maxLen at hcm
  clear hs
  intro d
  induction d with
  | zero => intro m K E n w hd; omega
  | succ d ih =>
    intro m K E n w hd hm f hkn
    have IH := Lib.hid ih
    have HD := Lib.hid hd
    have HF := Lib.hid f
    have HKN := Lib.hid hkn
    have HML := Lib.hid hm
    have hm16 : m < 65536 := Nat.lt_of_lt_of_le hm (Nat.pow_le_pow_right (by omega) hn)
    have hmu : mustK h h.length < 65536 := mask16 _ hn
    have han := u32_andNot_nat (mustK h h.length) m (by omega) (by omega)
    have HDN := Lib.hid (andNot_done hn hm16)
    obtain ⟨gq, hbs⟩ := f.bs
    have q1 : w.cell? ⟨gs, 1, none⟩ = some (.int .u32 ((mustK h h.length : Nat) : Int)) := hbs.cell 1
    have qk : w.cell? ⟨gw, 0, none⟩ = some (.map (some gm)) := f.bk.cell 0
    have qp : w.cell? ⟨gp, 0, none⟩ = some (.pointer (some ⟨gs, 0, none⟩)) := f.bp.cell 0
    have qh : w.cell? ⟨gh, 0, none⟩ = some (.slice ao h.length cap) := f.bh.cell 0
    have ql : w.cell? ⟨gl, 0, none⟩ = some (.int .i64 lim) := f.bl.cell 0
    generalize mustK h h.length &&& (4294967295 - m) = A at *
    clear ih hd f hkn hm hbs
    go_enter Try.func33, Try.ntmps33
    cases hKm : K m with
    | some c =>
      have HC : Hid (c = capC lim (C h m)) := Lib.hid (HKN.out.ok m c hKm)
      have HV : Hid (cntT.V ((K m).getD cntT.z0) = .int .i64 c) := Lib.hid (by rw [hKm]; rfl)
      have HI : Hid ((K m).isSome = true) := Lib.hid (by rw [hKm]; rfl)
      clear hKm
      go_wp2_with (refine wpList_map_ok cntT rfl (.tmp 14) (.tmp 15) rfl gm n K m rfl HF.out.map rfl (show m < 4294967296 by omega) HV.out HI.out ?_)
      go_ret
      exact ⟨ret_int HC.out, K, E, n, HF.out, HKN.out, fun s hs => .inl hs⟩
    | none =>
      have HKM := Lib.hid hKm
      have HV : Hid (cntT.V ((K m).getD cntT.z0) = .int .i64 0) := Lib.hid (by rw [hKm]; rfl)
      have HI : Hid ((K m).isSome = false) := Lib.hid (by rw [hKm]; rfl)
      clear hKm
      have HA0 : Hid (∀ x : Int, (if A = 0 then (1 : Int) else 0) = x → x = ((accC h m 0 : Nat) : Int)) := Lib.hid fun x hx => by
        subst hx
        unfold accC
        by_cases hA : A = 0
        · rw [if_pos hA, if_pos (HDN.out.2 hA)]; rfl
        · rw [if_neg hA, if_neg (fun e => hA (HDN.out.1 e))]; rfl
      have hloop : ∀ x : Int, x = ((accC h m 0 : Nat) : Int) → True := fun _ _ => trivial
      clear hloop HDN
      by_cases hA : A = 0
      · skip
        have HAC := Lib.hid (HA0.out 1 (if_pos hA))
        rw [hA] at han
        clear hA HA0
        go_wp2_with (refine wpList_map_ok cntT rfl (.tmp 14) (.tmp 15) rfl gm n K m rfl HF.out.map rfl (show m < 4294967296 by omega) HV.out HI.out ?_)
        clear q1 qk qp qh ql HV HI
        go_loopg [10, 30] h.length (fun mm acc idx wr => ∃ (j : Nat) (Kj : Known) (Ej : List Nat) (nj : Nat), mm + j = h.length ∧ idx = .int .i64 j ∧ acc = .int .i64 (capC lim (accC h m j)) ∧ Cw W0 wr gw gp gh gl gc gs gm (.slice ao h.length cap) h lim nj Kj ∧ Kn h lim Kj Ej nj ∧ Kj m = none ∧ ∀ s, (Kj s).isSome = true → (K s).isSome = true ∨ Sub m s)
        case atStart => exact ⟨0, K, E, n, by omega, rfl, by rw [capC_le (by rw [← HAC.out]; omega), ← HAC.out], HF.out, HKN.out, HKM.out, fun s hs => .inl hs⟩
        case round =>
          obtain ⟨j, Kj, Ej, nj, hmj, rfl, rfl, fj, knj, hnm, hnew⟩ := hrel
          have HM := Lib.hid hmj
          have HFJ := Lib.hid fj
          have HKJ := Lib.hid knj
          have HNM := Lib.hid hnm
          have HNW := Lib.hid hnew
          have hj : j ≤ h.length := by omega
          have hnj : nj ≤ 65536 := Nat.le_trans knj.ns (Nat.le_trans (nodup_len knj.nd knj.lt) (Nat.pow_le_pow_right (by omega) hn))
          have HAL : Hid (accC h m j ≤ C h m) := Lib.hid (by rw [← accC_all]; exact accC_le h m hj)
          have HCS := Lib.hid (C_small hn m)
          have ql : wr.cell? ⟨gl, 0, none⟩ = some (.int .i64 lim) := fj.bl.cell 0
          have qp : wr.cell? ⟨gp, 0, none⟩ = some (.pointer (some ⟨gs, 0, none⟩)) := fj.bp.cell 0
          have qk : wr.cell? ⟨gw, 0, none⟩ = some (.map (some gm)) := fj.bk.cell 0
          obtain ⟨gq, hbs⟩ := fj.bs
          have HBS := Lib.hid hbs
          clear hmj fj knj hnm hnew hbs HF HKN HKM HAC
          by_cases hlt : j < h.length
          · have hji : (j : Int) < h.length := by omega
            have hj0 : (0 : Int) ≤ (j : Int) := by omega
            have hj16 : j < 16 := by omega
            have hj32 : (j : Int) < 32 := by omega
            have HJ := Lib.hid (And.intro hlt trivial)
            have HSTEP : Hid (accC h m (j + 1) = accC h m j + if mayB h m j = true then C h (addM m j) else 0) := Lib.hid rfl
            by_cases hov : ((accC h m j : Nat) : Int) ≤ lim
            · have HOV := Lib.hid hov
              have hcl := capC_le hov
              have hno : ¬ lim < ((accC h m j : Nat) : Int) := by omega
              have HMY := Lib.hid (may_any (.slice ao h.length cap) h m j gs (mustK h h.length) gq 0 wr (HR.out.on HFJ.out.bel) HS.out hn hm16 hlt HBS.out)
              rw [hcl]
              have hap : (0 : Int) ≤ ((accC h m j : Nat) : Int) := by omega
              generalize hac : accC h m j = a at *
              have HACJ := Lib.hid hac
              clear hcl hov hac hlt
              by_cases hmay : mayB h m j = true
              · have HMA := Lib.hid hmay
                have hfk := freeK_add (may_bit hmay) HJ.out.1
                have hshl := shl_u32 hj16
                have hor := or_u32 hm16 hj16
                have hwr : IntKind.u32.wrap ((2 : Int) ^ j) = (2 : Int) ^ j := hshl
                rw [hmay] at HMY HSTEP
                clear hmay
                go_wp2_with fail
                refine HMY.out.mono ?_
                rintro e w3 ⟨rfl, hb3⟩
                have HF3 := Lib.hid (HFJ.out.on hb3)
                clear hb3 HMY HFJ ql qp qk HBS
                have HCALL : Hid (∀ wq, Below w3.heap.size w3 wq → Calls Try.prog 33 #[.int .u32 ((addM m j : Nat) : Int), .pointer (some ⟨gw, 0, none⟩), .pointer (some ⟨gp, 0, none⟩), .pointer (some ⟨gh, 0, none⟩), .pointer (some ⟨gl, 0, none⟩), .pointer (some ⟨gc, 0, none⟩)] wq (CntPost W0 gw gp gh gl gc gs gm (.slice ao h.length cap) h lim (addM m j) Kj)) := Lib.hid fun wq hq =>
                  IH.out (addM m j) Kj Ej nj wq (by have := HD.out; omega) (addM_lt HML.out HJ.out.1) (HF3.out.on hq) HKJ.out
                clear hfk
                go_wp2_with fail
                refine region_loud [.is (cloV gw gp gh gl gc), .is (.int .u32 (m : Int)), .is (.int .i64 (j : Int)), .is (.int .u32 ((2 : Int) ^ j)), .is (.int .u32 ((addM m j : Nat) : Int))] [.is (.int .i64 (capC lim (C h (addM m j))))] (.has (fun x w => x = .int .i64 (capC lim (C h (addM m j))) ∧ ∃ K4 E4 n4, Cw W0 w gw gp gh gl gc gs gm (.slice ao h.length cap) h lim n4 K4 ∧ Kn h lim K4 E4 n4 ∧ ∀ s, (K4 s).isSome = true → (Kj s).isSome = true ∨ Sub (addM m j) s) (fun _ _ _ hb ⟨a, K4, E4, n4, c, d⟩ => ⟨a, K4, E4, n4, c.on hb, d⟩)) 5 rfl _ rfl (by kernel_rfl) rfl (by kernel_rfl) (by kernel_rfl) (by kernel_rfl) (by kernel_rfl) (.cons ?q0 (.cons ?q1 (.cons ?q2 (.cons ?q3 (.cons ?q4 .nil))))) ?q5 (.cons ?q6 .nil) ?qfin
                case q0 =>
                  intro wq hbw st  K hK
                  simp only [Act.put, List.setIfInBounds_toArray, List.set_cons_zero, List.set_cons_succ] at hK ⊢
                  unfold opStep
                  rw [if_pos (by rfl)]
                  have qc : wq.cell? ⟨gc, 0, none⟩ = some (cloV gw gp gh gl gc) := (HF3.out.on hbw).bc.cell 0
                  go_simp
                  exact hK.out _ _ (Below.refl _ _) rfl _ rfl
                case q1 =>
                  intro wq hbw st  K hK
                  simp only [Act.put, List.setIfInBounds_toArray, List.set_cons_zero, List.set_cons_succ] at hK ⊢
                  unfold opStep
                  rw [if_pos (by rfl)]
                  go_simp
                  exact hK.out _ _ (Below.refl _ _) rfl _ rfl
                case q2 =>
                  intro wq hbw st  K hK
                  simp only [Act.put, List.setIfInBounds_toArray, List.set_cons_zero, List.set_cons_succ] at hK ⊢
                  unfold opStep
                  rw [if_pos (by rfl)]
                  go_simp
                  exact hK.out _ _ (Below.refl _ _) rfl _ rfl
                case q3 =>
                  intro wq hbw st  K hK
                  simp only [Act.put, List.setIfInBounds_toArray, List.set_cons_zero, List.set_cons_succ] at hK ⊢
                  unfold opStep
                  rw [if_pos (by rfl)]
                  go_simp
                  exact hK.out _ _ (Below.refl _ _) rfl _ rfl
                case q4 =>
                  intro wq hbw st  K hK
                  simp only [Act.put, List.setIfInBounds_toArray, List.set_cons_zero, List.set_cons_succ] at hK ⊢
                  unfold opStep
                  rw [if_pos (by rfl)]
                  go_simp
                  exact hK.out _ _ (Below.refl _ _) rfl _ rfl
                case q5 =>
                  intro wq hbw st  K hK
                  simp only [Act.put, List.setIfInBounds_toArray, List.set_cons_zero, List.set_cons_succ] at hK ⊢
                  unfold opStep
                  rw [if_pos (by rfl)]
                  unfold cloV
                  go_simp
                  have hpc := HCALL.out wq hbw
                  refine hpc.mono ?_
                  rintro e wz ⟨rfl, K4, E4, n4, c4, k4, n4n⟩
                  try go_simp
                  exact hK.out _ _ ⟨rfl, K4, E4, n4, c4, k4, n4n⟩ _ rfl
                case q6 =>
                  intro wq _ st x5 h5 K hK
                  simp only [Act.put, List.setIfInBounds_toArray, List.set_cons_zero, List.set_cons_succ] at hK ⊢
                  unfold opStep
                  rw [if_pos (by rfl)]
                  obtain ⟨rfl, _⟩ := h5
                  go_simp
                  exact hK.out _ _ (Below.refl _ _) rfl _ rfl
                case qfin =>
                  intro wq
                  intro x5 h5
                  try simp only [FinAll]
                  simp only [Act.put, List.setIfInBounds_toArray, List.set_cons_zero, List.set_cons_succ]
                  obtain ⟨rfl, K4, E4, n4, c4, kn4, hnw4⟩ := h5
                  have HF4 := Lib.hid c4
                  have HK4 := Lib.hid kn4
                  have HNW4 := Lib.hid hnw4
                  have HK4M : Hid (K4 m = none) := Lib.hid (by
                    cases hq : K4 m with
                    | none => rfl
                    | some e =>
                      rcases HNW4.out m (by rw [hq]; rfl) with h1 | h1
                      · rw [HNM.out] at h1; cases h1
                      · have := h1.bit
                        rw [may_bit HMA.out] at this; cases this)
                  have HNW5 : Hid (∀ s, (K4 s).isSome = true → (K s).isSome = true ∨ Sub m s) := Lib.hid fun s hs => (HNW4.out s hs).elim (HNW.out s) fun q => .inr q.of_add
                  have ql : wq.cell? ⟨gl, 0, none⟩ = some (.int .i64 lim) := c4.bl.cell 0
                  clear c4 kn4 hnw4 HCALL HF3 hshl hor hwr
                  have HCM : Hid ((a : Nat) + C h (addM m j) = accC h m (j + 1)) := Lib.hid (by rw [HSTEP.out]; simp)
                  have HC1 : Hid (accC h m (j + 1) ≤ C h m) := Lib.hid (by rw [← accC_all]; exact accC_le h m HJ.out.1)
                  generalize hcc : C h (addM m j) = c at *
                  by_cases hgt : lim - (a : Int) < capC lim c
                  · have hj2 := capC_jump (b := c) HOV.out (by omega)
                    have hcs := HCS.out
                    have hc1 := HC1.out
                    have hcm := HCM.out
                    have hl64 : lim < 60000000000000 := by have := hj2.2; omega
                    have HJ2 := Lib.hid hj2.1
                    clear hj2 hcs hc1 hcm hcc
                    generalize capC lim c = y at *
                    go_wp2
                    go_roundg (h.length - (j + 1))
                    case measure => have := HM.out; omega
                    case rel => exact ⟨j + 1, K4, E4, n4, by omega, by go_num, by rw [← HCM.out, HJ2.out], HF4.out, HK4.out, HK4M.out, HNW5.out⟩
                  · have hj2 := capC_add (b := c) HOV.out (by omega)
                    have HJ2 := Lib.hid hj2
                    have hyl : capC lim c ≤ lim - (a : Int) := by omega
                    have hy0 : 0 ≤ capC lim c := by unfold capC; split <;> omega
                    clear hj2 hcc
                    generalize capC lim c = y at *
                    go_wp2
                    go_roundg (h.length - (j + 1))
                    case measure => have := HM.out; omega
                    case rel => exact ⟨j + 1, K4, E4, n4, by omega, by go_num, by rw [← HCM.out, HJ2.out], HF4.out, HK4.out, HK4M.out, HNW5.out⟩
              · rw [Bool.eq_false_iff.2 hmay] at HMY HSTEP
                clear hmay
                go_wp2_with fail
                refine HMY.out.mono ?_
                rintro e w3 ⟨rfl, hb3⟩
                have HF3 := Lib.hid (HFJ.out.on hb3)
                clear hb3 HMY HFJ ql qp qk HBS
                go_wp2
                go_roundg (h.length - (j + 1))
                case measure => have := HM.out; omega
                case rel => exact ⟨j + 1, Kj, Ej, nj, by omega, by go_num, by rw [HSTEP.out, if_neg (by simp), Nat.add_zero, capC_le HOV.out], HF3.out, HKJ.out, HNM.out, HNW.out⟩
            · have hcg := capC_gt hov
              have HOV := Lib.hid hov
              have hac := HAL.out
              have hcs := HCS.out
              have hl64 : lim < 60000000000000 := by omega
              have hlt2 : lim < lim + 1 := by omega
              rw [hcg]
              have HNX : Hid (capC lim (accC h m (j + 1)) = lim + 1) := Lib.hid (by rw [HSTEP.out, capC_more HOV.out, hcg])
              clear hcg hov hac hcs qp qk
              go_wp2
              go_roundg (h.length - (j + 1))
              case measure => have := HM.out; omega
              case rel => exact ⟨j + 1, Kj, Ej, nj, by omega, by go_num, by rw [HNX.out], HFJ.out, HKJ.out, HNM.out, HNW.out⟩
          · have HAA : Hid (accC h m j = C h m) := Lib.hid (by rw [show j = h.length by omega, accC_all])
            rw [HAA.out]
            have HKP := Lib.hid (HKJ.out.put HNM.out HML.out (v := capC lim (C h m)) rfl)
            clear HAL HCS
            generalize hcv : capC lim (C h m) = cv at *
            have HCV := Lib.hid hcv
            clear hcv ql qp
            go_wp2_with (refine wpList_map_put cntT rfl (.tmp 61) (.tmp 62) (.tmp 63) rfl gm nj Kj m cv rfl HFJ.out.map (by unfold maxLen; omega) rfl (show m < 4294967296 by omega) rfl ?_)
            intro w5 hm5 hg5
            have HF5 := Lib.hid (HFJ.out.put hm5 hg5)
            clear hm5 hg5
            go_wp2
            go_ret
            refine ⟨ret_int HCV.out.symm, _, _, _, HF5.out, HKP.out, fun s hs => ?_⟩
            have hs' : (updK Kj m cv s).isSome = true := hs
            unfold updK at hs'
            by_cases e : s = m
            · subst e; exact .inr (Sub.refl _)
            · rw [if_neg e] at hs'; exact HNW.out s hs'
      · skip
        have HAC := Lib.hid (HA0.out 0 (if_neg hA))
        have hA1 := beq_f (show ¬ (A : Int) = 0 by omega)
        clear hA HA0
        go_wp2_with (refine wpList_map_ok cntT rfl (.tmp 14) (.tmp 15) rfl gm n K m rfl HF.out.map rfl (show m < 4294967296 by omega) HV.out HI.out ?_)
        clear q1 qk qp qh ql HV HI
        go_loopg [10, 30] h.length (fun mm acc idx wr => ∃ (j : Nat) (Kj : Known) (Ej : List Nat) (nj : Nat), mm + j = h.length ∧ idx = .int .i64 j ∧ acc = .int .i64 (capC lim (accC h m j)) ∧ Cw W0 wr gw gp gh gl gc gs gm (.slice ao h.length cap) h lim nj Kj ∧ Kn h lim Kj Ej nj ∧ Kj m = none ∧ ∀ s, (Kj s).isSome = true → (K s).isSome = true ∨ Sub m s)
        case atStart => exact ⟨0, K, E, n, by omega, rfl, by rw [capC_le (by rw [← HAC.out]; omega), ← HAC.out], HF.out, HKN.out, HKM.out, fun s hs => .inl hs⟩
        case round =>
          obtain ⟨j, Kj, Ej, nj, hmj, rfl, rfl, fj, knj, hnm, hnew⟩ := hrel
          have HM := Lib.hid hmj
          have HFJ := Lib.hid fj
          have HKJ := Lib.hid knj
          have HNM := Lib.hid hnm
          have HNW := Lib.hid hnew
          have hj : j ≤ h.length := by omega
          have hnj : nj ≤ 65536 := Nat.le_trans knj.ns (Nat.le_trans (nodup_len knj.nd knj.lt) (Nat.pow_le_pow_right (by omega) hn))
          have HAL : Hid (accC h m j ≤ C h m) := Lib.hid (by rw [← accC_all]; exact accC_le h m hj)
          have HCS := Lib.hid (C_small hn m)
          have ql : wr.cell? ⟨gl, 0, none⟩ = some (.int .i64 lim) := fj.bl.cell 0
          have qp : wr.cell? ⟨gp, 0, none⟩ = some (.pointer (some ⟨gs, 0, none⟩)) := fj.bp.cell 0
          have qk : wr.cell? ⟨gw, 0, none⟩ = some (.map (some gm)) := fj.bk.cell 0
          obtain ⟨gq, hbs⟩ := fj.bs
          have HBS := Lib.hid hbs
          clear hmj fj knj hnm hnew hbs HF HKN HKM HAC
          by_cases hlt : j < h.length
          · have hji : (j : Int) < h.length := by omega
            have hj0 : (0 : Int) ≤ (j : Int) := by omega
            have hj16 : j < 16 := by omega
            have hj32 : (j : Int) < 32 := by omega
            have HJ := Lib.hid (And.intro hlt trivial)
            have HSTEP : Hid (accC h m (j + 1) = accC h m j + if mayB h m j = true then C h (addM m j) else 0) := Lib.hid rfl
            by_cases hov : ((accC h m j : Nat) : Int) ≤ lim
            · have HOV := Lib.hid hov
              have hcl := capC_le hov
              have hno : ¬ lim < ((accC h m j : Nat) : Int) := by omega
              have HMY := Lib.hid (may_any (.slice ao h.length cap) h m j gs (mustK h h.length) gq 0 wr (HR.out.on HFJ.out.bel) HS.out hn hm16 hlt HBS.out)
              rw [hcl]
              have hap : (0 : Int) ≤ ((accC h m j : Nat) : Int) := by omega
              generalize hac : accC h m j = a at *
              have HACJ := Lib.hid hac
              clear hcl hov hac hlt
              by_cases hmay : mayB h m j = true
              · have HMA := Lib.hid hmay
                have hfk := freeK_add (may_bit hmay) HJ.out.1
                have hshl := shl_u32 hj16
                have hor := or_u32 hm16 hj16
                have hwr : IntKind.u32.wrap ((2 : Int) ^ j) = (2 : Int) ^ j := hshl
                rw [hmay] at HMY HSTEP
                clear hmay
                go_wp2_with fail
                refine HMY.out.mono ?_
                rintro e w3 ⟨rfl, hb3⟩
                have HF3 := Lib.hid (HFJ.out.on hb3)
                clear hb3 HMY HFJ ql qp qk HBS
                have HCALL : Hid (∀ wq, Below w3.heap.size w3 wq → Calls Try.prog 33 #[.int .u32 ((addM m j : Nat) : Int), .pointer (some ⟨gw, 0, none⟩), .pointer (some ⟨gp, 0, none⟩), .pointer (some ⟨gh, 0, none⟩), .pointer (some ⟨gl, 0, none⟩), .pointer (some ⟨gc, 0, none⟩)] wq (CntPost W0 gw gp gh gl gc gs gm (.slice ao h.length cap) h lim (addM m j) Kj)) := Lib.hid fun wq hq =>
                  IH.out (addM m j) Kj Ej nj wq (by have := HD.out; omega) (addM_lt HML.out HJ.out.1) (HF3.out.on hq) HKJ.out
                clear hfk
                go_wp2_with fail
                refine region_loud [.is (cloV gw gp gh gl gc), .is (.int .u32 (m : Int)), .is (.int .i64 (j : Int)), .is (.int .u32 ((2 : Int) ^ j)), .is (.int .u32 ((addM m j : Nat) : Int))] [.is (.int .i64 (capC lim (C h (addM m j))))] (.has (fun x w => x = .int .i64 (capC lim (C h (addM m j))) ∧ ∃ K4 E4 n4, Cw W0 w gw gp gh gl gc gs gm (.slice ao h.length cap) h lim n4 K4 ∧ Kn h lim K4 E4 n4 ∧ ∀ s, (K4 s).isSome = true → (Kj s).isSome = true ∨ Sub (addM m j) s) (fun _ _ _ hb ⟨a, K4, E4, n4, c, d⟩ => ⟨a, K4, E4, n4, c.on hb, d⟩)) 5 rfl _ rfl (by kernel_rfl) rfl (by kernel_rfl) (by kernel_rfl) (by kernel_rfl) (by kernel_rfl) (.cons ?q0 (.cons ?q1 (.cons ?q2 (.cons ?q3 (.cons ?q4 .nil))))) ?q5 (.cons ?q6 .nil) ?qfin
                case q0 =>
                  intro wq hbw st  K hK
                  simp only [Act.put, List.setIfInBounds_toArray, List.set_cons_zero, List.set_cons_succ] at hK ⊢
                  unfold opStep
                  rw [if_pos (by rfl)]
                  have qc : wq.cell? ⟨gc, 0, none⟩ = some (cloV gw gp gh gl gc) := (HF3.out.on hbw).bc.cell 0
                  go_simp
                  exact hK.out _ _ (Below.refl _ _) rfl _ rfl
                case q1 =>
                  intro wq hbw st  K hK
                  simp only [Act.put, List.setIfInBounds_toArray, List.set_cons_zero, List.set_cons_succ] at hK ⊢
                  unfold opStep
                  rw [if_pos (by rfl)]
                  go_simp
                  exact hK.out _ _ (Below.refl _ _) rfl _ rfl
                case q2 =>
                  intro wq hbw st  K hK
                  simp only [Act.put, List.setIfInBounds_toArray, List.set_cons_zero, List.set_cons_succ] at hK ⊢
                  unfold opStep
                  rw [if_pos (by rfl)]
                  go_simp
                  exact hK.out _ _ (Below.refl _ _) rfl _ rfl
                case q3 =>
                  intro wq hbw st  K hK
                  simp only [Act.put, List.setIfInBounds_toArray, List.set_cons_zero, List.set_cons_succ] at hK ⊢
                  unfold opStep
                  rw [if_pos (by rfl)]
                  go_simp
                  exact hK.out _ _ (Below.refl _ _) rfl _ rfl
                case q4 =>
                  intro wq hbw st  K hK
                  simp only [Act.put, List.setIfInBounds_toArray, List.set_cons_zero, List.set_cons_succ] at hK ⊢
                  unfold opStep
                  rw [if_pos (by rfl)]
                  go_simp
                  exact hK.out _ _ (Below.refl _ _) rfl _ rfl
                case q5 =>
                  intro wq hbw st  K hK
                  simp only [Act.put, List.setIfInBounds_toArray, List.set_cons_zero, List.set_cons_succ] at hK ⊢
                  unfold opStep
                  rw [if_pos (by rfl)]
                  unfold cloV
                  go_simp
                  have hpc := HCALL.out wq hbw
                  refine hpc.mono ?_
                  rintro e wz ⟨rfl, K4, E4, n4, c4, k4, n4n⟩
                  try go_simp
                  exact hK.out _ _ ⟨rfl, K4, E4, n4, c4, k4, n4n⟩ _ rfl
                case q6 =>
                  intro wq _ st x5 h5 K hK
                  simp only [Act.put, List.setIfInBounds_toArray, List.set_cons_zero, List.set_cons_succ] at hK ⊢
                  unfold opStep
                  rw [if_pos (by rfl)]
                  obtain ⟨rfl, _⟩ := h5
                  go_simp
                  exact hK.out _ _ (Below.refl _ _) rfl _ rfl
                case qfin =>
                  intro wq
                  intro x5 h5
                  try simp only [FinAll]
                  simp only [Act.put, List.setIfInBounds_toArray, List.set_cons_zero, List.set_cons_succ]
                  obtain ⟨rfl, K4, E4, n4, c4, kn4, hnw4⟩ := h5
                  have HF4 := Lib.hid c4
                  have HK4 := Lib.hid kn4
                  have HNW4 := Lib.hid hnw4
                  have HK4M : Hid (K4 m = none) := Lib.hid (by
                    cases hq : K4 m with
                    | none => rfl
                    | some e =>
                      rcases HNW4.out m (by rw [hq]; rfl) with h1 | h1
                      · rw [HNM.out] at h1; cases h1
                      · have := h1.bit
                        rw [may_bit HMA.out] at this; cases this)
                  have HNW5 : Hid (∀ s, (K4 s).isSome = true → (K s).isSome = true ∨ Sub m s) := Lib.hid fun s hs => (HNW4.out s hs).elim (HNW.out s) fun q => .inr q.of_add
                  have ql : wq.cell? ⟨gl, 0, none⟩ = some (.int .i64 lim) := c4.bl.cell 0
                  clear c4 kn4 hnw4 HCALL HF3 hshl hor hwr
                  have HCM : Hid ((a : Nat) + C h (addM m j) = accC h m (j + 1)) := Lib.hid (by rw [HSTEP.out]; simp)
                  have HC1 : Hid (accC h m (j + 1) ≤ C h m) := Lib.hid (by rw [← accC_all]; exact accC_le h m HJ.out.1)
                  generalize hcc : C h (addM m j) = c at *
                  by_cases hgt : lim - (a : Int) < capC lim c
                  · have hj2 := capC_jump (b := c) HOV.out (by omega)
                    have hcs := HCS.out
                    have hc1 := HC1.out
                    have hcm := HCM.out
                    have hl64 : lim < 60000000000000 := by have := hj2.2; omega
                    have HJ2 := Lib.hid hj2.1
                    clear hj2 hcs hc1 hcm hcc
                    generalize capC lim c = y at *
                    go_wp2
                    go_roundg (h.length - (j + 1))
                    case measure => have := HM.out; omega
                    case rel => exact ⟨j + 1, K4, E4, n4, by omega, by go_num, by rw [← HCM.out, HJ2.out], HF4.out, HK4.out, HK4M.out, HNW5.out⟩
                  · have hj2 := capC_add (b := c) HOV.out (by omega)
                    have HJ2 := Lib.hid hj2
                    have hyl : capC lim c ≤ lim - (a : Int) := by omega
                    have hy0 : 0 ≤ capC lim c := by unfold capC; split <;> omega
                    clear hj2 hcc
                    generalize capC lim c = y at *
                    go_wp2
                    go_roundg (h.length - (j + 1))
                    case measure => have := HM.out; omega
                    case rel => exact ⟨j + 1, K4, E4, n4, by omega, by go_num, by rw [← HCM.out, HJ2.out], HF4.out, HK4.out, HK4M.out, HNW5.out⟩
              · rw [Bool.eq_false_iff.2 hmay] at HMY HSTEP
                clear hmay
                go_wp2_with fail
                refine HMY.out.mono ?_
                rintro e w3 ⟨rfl, hb3⟩
                have HF3 := Lib.hid (HFJ.out.on hb3)
                clear hb3 HMY HFJ ql qp qk HBS
                go_wp2
                go_roundg (h.length - (j + 1))
                case measure => have := HM.out; omega
                case rel => exact ⟨j + 1, Kj, Ej, nj, by omega, by go_num, by rw [HSTEP.out, if_neg (by simp), Nat.add_zero, capC_le HOV.out], HF3.out, HKJ.out, HNM.out, HNW.out⟩
            · have hcg := capC_gt hov
              have HOV := Lib.hid hov
              have hac := HAL.out
              have hcs := HCS.out
              have hl64 : lim < 60000000000000 := by omega
              have hlt2 : lim < lim + 1 := by omega
              rw [hcg]
              have HNX : Hid (capC lim (accC h m (j + 1)) = lim + 1) := Lib.hid (by rw [HSTEP.out, capC_more HOV.out, hcg])
              clear hcg hov hac hcs qp qk
              go_wp2
              go_roundg (h.length - (j + 1))
              case measure => have := HM.out; omega
              case rel => exact ⟨j + 1, Kj, Ej, nj, by omega, by go_num, by rw [HNX.out], HFJ.out, HKJ.out, HNM.out, HNW.out⟩
          · have HAA : Hid (accC h m j = C h m) := Lib.hid (by rw [show j = h.length by omega, accC_all])
            rw [HAA.out]
            have HKP := Lib.hid (HKJ.out.put HNM.out HML.out (v := capC lim (C h m)) rfl)
            clear HAL HCS
            generalize hcv : capC lim (C h m) = cv at *
            have HCV := Lib.hid hcv
            clear hcv ql qp
            go_wp2_with (refine wpList_map_put cntT rfl (.tmp 61) (.tmp 62) (.tmp 63) rfl gm nj Kj m cv rfl HFJ.out.map (by unfold maxLen; omega) rfl (show m < 4294967296 by omega) rfl ?_)
            intro w5 hm5 hg5
            have HF5 := Lib.hid (HFJ.out.put hm5 hg5)
            clear hm5 hg5
            go_wp2
            go_ret
            refine ⟨ret_int HCV.out.symm, _, _, _, HF5.out, HKP.out, fun s hs => ?_⟩
            have hs' : (updK Kj m cv s).isSome = true := hs
            unfold updK at hs'
            by_cases e : s = m
            · subst e; exact .inr (Sub.refl _)
            · rw [if_neg e] at hs'; exact HNW.out s hs'
end Go.Proofs.Ytgaolgfjbgflgaa
