/-
  Chapter 28: Partition.
-/
import Derived.Test.YtmcdmcnbnnfhnaaWa
import Derived.Test.YtmcdmcnbnnfhnaaVf
namespace Go.Proofs.Ytmcdmcnbnnfhnaa
open Go.RowKit

def putF (f : Int → Option Int) (p i : Int) : Int → Option Int := fun y => if y = p then some i else f y
def partRow (i : Int) : List GI → (Int → Option Int) → Option (Int → Option Int)
  | [], f => some f
  | p :: r, f => if ((f p.n).isSome || !procB p.n) = true then none else partRow i r (putF f p.n i)
def partAll : Nat → List (List GI) → (Int → Option Int) → Option (Int → Option Int)
  | _, [], f => some f
  | k, g :: r, f => (partRow (k : Int) g f).bind fun f' => partAll (k + 1) r f'
def partG (gs : List (List GI)) : Option (Int → Option Int) := partAll 0 gs fun _ => none
/-- How many numbers stand before place q of row k, at most. -/
def rowsN (k q : Nat) : Nat := k * 1048576 + q
theorem rowsN_next (k q : Nat) (h : q ≤ 1048576) : rowsN k q ≤ rowsN (k + 1) 0 := by
  unfold rowsN
  have : (k + 1) * 1048576 = k * 1048576 + 1048576 := Nat.succ_mul k 1048576
  omega
/-- The map of groups in the making. -/
structure GrpI (w wr : World) (gm : Nat) (f : Int → Option Int) (m : Nat) : Prop where
  map : ∃ c M, MapV wr gm c M ∧ (∀ x, I64 x → M x = (f x).map fun y => .int .i64 y) ∧ c ≤ m
  bel : Below w.heap.size w wr
def PartMade (P : Nat → Prop) (n b : Nat) (gv : Value) (s : NetS) (gs : List (List GI)) (w : World) (e : Ending) (w' : World) : Prop :=
  (partG gs = none ∧ e = .returned (.int .i64 1) ∧ NetAt P n b gv s w' ∧ Kept (fun k => k = n) w w') ∨
  ∃ f gv', partG gs = some f ∧ e = .returned (.int .i64 0) ∧ NetAt P n b gv' { s with grp := some f } w' ∧ Kept (fun k => k = n) w w'
section
variable {P Pg : Nat → Prop} {n b : Nat} {gv : Value} {s : NetS} {w w' : World}
theorem NetAt.setG (h : NetAt P n b gv s w) {gv' : Value} {g : Option (Int → Option Int)} (hg : GrpAt P (w.setCell ⟨n, 3, none⟩ gv') gv' n b g) : NetAt P n b gv' { s with grp := g } (w.setCell ⟨n, 3, none⟩ gv') := by
  have hk : ∀ k, k ≠ n → (w.setCell ⟨n, 3, none⟩ gv').heap[k]? = w.heap[k]? := fun k hk => Below.heap_setCell w _ gv' k hk
  have hs : w.heap.size ≤ (w.setCell ⟨n, 3, none⟩ gv').heap.size := by simp [World.setCell]
  exact ⟨h.pn, h.pb, h.ne, h.box.set_ 3 gv', h.way.keep (hk b h.ne.symm) hs fun k _ hn _ _ => hk k hn, hg⟩
theorem partRow_step {i : Int} {g : List GI} {q : Nat} (hq : q < g.length) (f : Int → Option Int) : partRow i (g.drop q) f = if ((f g[q].n).isSome || !procB g[q].n) = true then none else partRow i (g.drop (q + 1)) (putF f g[q].n i) := by
  rw [List.drop_eq_getElem_cons hq, partRow]
theorem partAll_step {gs : List (List GI)} {k : Nat} (hk : k < gs.length) (f : Int → Option Int) : partAll k (gs.drop k) f = (partRow (k : Int) gs[k] f).bind fun f' => partAll (k + 1) (gs.drop (k + 1)) f' := by
  rw [List.drop_eq_getElem_cons hk, partAll]
set_option maxRecDepth 100000
set_option maxHeartbeats 8000000
theorem partition_any (v : Value) (gs : List (List GI)) (h : NetAt P n b gv s w) (hg : ReadsD Pg w v (groupsD gs)) (hP : ∀ k, w.heap.size ≤ k → P k) : Calls Try.prog 18 #[.pointer (some ⟨n, 0, none⟩), v] w (PartMade P n b gv s gs w) := by
  obtain ⟨ao, cap, rfl, hl, hm, -, hL⟩ := ReadsD.slcM (f := fun g : List GI => [rowD g]) hg
  unfold maxLen at hm
  have HG := Lib.hid hg
  have HN := Lib.hid h
  have HP := Lib.hid hP
  have HF1 : Hid (partG gs = none → ∀ e w', e = .returned (.int .i64 1) → Below w.heap.size w w' → PartMade P n b gv s gs w e w') := Lib.hid fun h1 e w' he hb => .inl ⟨h1, he, HN.out.on hb, Kept.of hb⟩
  have HF2 : Hid (∀ f gv' e w', partG gs = some f → e = .returned (.int .i64 0) → NetAt P n b gv' { s with grp := some f } w' → Kept (fun k => k = n) w w' → PartMade P n b gv s gs w e w') := Lib.hid fun f gv' e w' h1 h2 h3 h4 => .inr ⟨f, gv', h1, h2, h3, h4⟩
  generalize hQ : PartMade P n b gv s gs w = Q at *
  have HR : Hid (partAll 0 (gs.drop 0) (fun _ => none) = partG gs) := Lib.hid (by rw [List.drop_zero]; rfl)
  generalize hR : partG gs = R at *
  clear hQ hR h hg hP
  have HNL : Hid (n < w.heap.size ∧ b < w.heap.size) := Lib.hid ⟨HN.out.box.lt, HN.out.blt⟩
  go_enter Try.func18, Try.ntmps18
  go_wp2_with (refine wpList_map_made rfl 73 rfl ?_)
  have HI0 : Hid (GrpI w (w.alloc (.map #[] 0)) w.heap.size (fun _ => none) (rowsN 0 0)) := Lib.hid ⟨⟨0, _, MapV.made w, fun x _ => rfl, Nat.zero_le _⟩, (Below.refl _ _).alloc (Nat.le_refl _) _⟩
  generalize hwm : World.alloc w _ = wm at HI0 ⊢
  have HGM : Hid (w.heap.size ≤ w.heap.size) := Lib.hid (Nat.le_refl _)
  clear hwm
  go_loopg [15] gs.length (fun mm i wr => ∃ k : Nat, mm + k = gs.length ∧ i = .int .i64 k ∧ ∃ f, GrpI w wr w.heap.size f (rowsN k 0) ∧ partAll k (gs.drop k) f = R)
  case atStart => exact ⟨0, by omega, rfl, _, HI0.out, HR.out⟩
  case round =>
    rename World => w1
    obtain ⟨k, hmk, rfl, f, hI, hRk⟩ := hrel
    have HM := Lib.hid hmk
    have HI := Lib.hid hI
    have HRK := Lib.hid hRk
    have hk0 : (0 : Int) ≤ (k : Int) := by omega
    have hk1 : k ≤ gs.length := by omega
    clear hmk hI hRk HR HI0
    by_cases hlt : k < gs.length
    · have hki : (k : Int) < gs.length := by omega
      obtain ⟨b1, o1, c1, cs1, e1, -, -, -, -, g1, q1⟩ := ReadsD.item (f := fun g : List GI => [rowD g]) HG.out hlt
      injection e1 with e1 e2 e3
      subst e1
      clear e2 e3
      have HST : Hid (partAll k (gs.drop k) f = (partRow (k : Int) gs[k] f).bind fun f' => partAll (k + 1) (gs.drop (k + 1)) f') := Lib.hid (partAll_step hlt f)
      generalize gs[k] = g at *
      obtain ⟨rv, cs2, rfl, r1, qq⟩ := q1.cons
      obtain rfl := qq.nil
      clear q1 qq
      obtain ⟨ro, rk, rfl, hrl, hrm, -, hrL⟩ := ReadsD.slcM (f := fun x : GI => [iD x.n]) r1
      unfold maxLen at hrm
      have HRW := Lib.hid r1
      have HLT := Lib.hid hlt
      have d1 : w1.cell? ⟨b1, o1 + k, none⟩ = some (.slice ro g.length rk) := by have h := g1 w1 HI.out.bel 0 _ rfl; simpa only [Nat.mul_one, Nat.add_zero] using h
      clear g1 r1 hlt
      obtain ⟨G, hG⟩ : ∃ G, G = gk := ⟨_, rfl⟩
      subst hG
      go_wp2
      clear d1
      go_loopg [22] g.length (fun mm j wr => ∃ q : Nat, mm + q = g.length ∧ j = .int .i64 q ∧ ∃ f', GrpI w wr w.heap.size f' (rowsN k q) ∧ ((partRow (k : Int) (g.drop q) f').bind fun f' => partAll (k + 1) (gs.drop (k + 1)) f') = R)
      case atStart => exact ⟨0, by omega, rfl, f, HI.out, by rw [List.drop_zero, ← HST.out]; exact HRK.out⟩
      case round =>
        rename World => w2
        obtain ⟨q, hmq, rfl, f', hI2, hRq⟩ := hrel
        have HM2 := Lib.hid hmq
        have HI2 := Lib.hid hI2
        have HRQ := Lib.hid hRq
        have hq0 : (0 : Int) ≤ (q : Int) := by omega
        have hq1 : q ≤ g.length := by omega
        clear hmq hI2 hRq HST HRK HI
        by_cases hlq : q < g.length
        · have hqi : (q : Int) < g.length := by omega
          obtain ⟨b2, o2, c2, cs2, e1, -, -, -, -, g2, q2⟩ := ReadsD.item (f := fun x : GI => [iD x.n]) HRW.out hlq
          injection e1 with e1 e2 e3
          subst e1
          clear e2 e3
          have HST : Hid (partRow (k : Int) (g.drop q) f' = if ((f' g[q].n).isSome || !procB g[q].n) = true then none else partRow (k : Int) (g.drop (q + 1)) (putF f' g[q].n k)) := Lib.hid (partRow_step hlq f')
          generalize g[q] = p at *
          obtain ⟨pv, cs3, rfl, r2, qq⟩ := q2.cons
          obtain rfl := qq.nil
          have r3 := r2.i
          subst r3
          clear q2 qq r2
          have d1 : w2.cell? ⟨b2, o2 + q, none⟩ = some (.int .i64 p.n) := by have h := g2 w2 HI2.out.bel 0 _ rfl; simpa only [Nat.mul_one, Nat.add_zero] using h
          obtain ⟨c, M, hMV, hMf, hcm⟩ := HI2.out.map
          have HMV := Lib.hid hMV
          have HMF := Lib.hid hMf
          have HCM := Lib.hid hcm
          have HLQ := Lib.hid hlq
          have HPI := Lib.hid p.h
          have HV : Hid ((M p.n).getD (.int .i64 0) = .int .i64 ((f' p.n).getD 0) ∧ (M p.n).isSome = (f' p.n).isSome) := Lib.hid (by rw [hMf p.n p.h]; cases f' p.n <;> exact ⟨rfl, rfl⟩)
          have HPR := Lib.hid fun W => process_any p.n W
          clear hMV hMf hcm g2 hlq
          cases hsm : (f' p.n).isSome with
          | true =>
            have HNO : Hid (R = none) := Lib.hid (by rw [← HRQ.out, HST.out, hsm]; rfl)
            rw [hsm] at HV
            clear hsm
            go_wp2_with (refine wpList_mapv_ok rfl 73 (.tmp 27) (.tmp 28) rfl Try.underlying73 zeroInt_run rfl HMV.out rfl HPI.out HV.out.1 HV.out.2 ?_)
            exact HF1.out HNO.out _ _ rfl HI2.out.bel
          | false =>
          rw [hsm] at HV
          cases hpr : procB p.n with
          | false =>
            have HNO : Hid (R = none) := Lib.hid (by rw [← HRQ.out, HST.out, hsm, hpr]; rfl)
            rw [hpr] at HPR
            clear hsm hpr
            go_wp2_with (refine wpList_mapv_ok rfl 73 (.tmp 27) (.tmp 28) rfl Try.underlying73 zeroInt_run rfl HMV.out rfl HPI.out HV.out.1 HV.out.2 ?_)
            refine (HPR.out _).mono ?_
            rintro e w' ⟨rfl, rfl⟩
            go_wp2_with fail
            exact HF1.out HNO.out _ _ rfl HI2.out.bel
          | true =>
            have HRN : Hid (((partRow (k : Int) (g.drop (q + 1)) (putF f' p.n k)).bind fun f' => partAll (k + 1) (gs.drop (k + 1)) f') = R) := Lib.hid (by rw [← HRQ.out, HST.out, hsm, hpr]; rfl)
            rw [hpr] at HPR
            clear hsm hpr HST
            go_wp2_with (refine wpList_mapv_ok rfl 73 (.tmp 27) (.tmp 28) rfl Try.underlying73 zeroInt_run rfl HMV.out rfl HPI.out HV.out.1 HV.out.2 ?_)
            refine (HPR.out _).mono ?_
            rintro e w' ⟨rfl, rfl⟩
            have hsn := HV.out.2
            go_wp2_with (refine wpList_mapv_put rfl 73 (.tmp 38) (.tmp 39) (.tmp 40) rfl Try.underlying73 rfl HMV.out (by have h1 := HCM.out; have h2 := HLQ.out; have h3 := HLT.out; unfold rowsN at h1; unfold maxLen; omega) rfl HPI.out rfl ?_)
            intro w3 hw3 hk3
            have HI3 : Hid (GrpI w w3 w.heap.size (putF f' p.n k) (rowsN k (q + 1))) := Lib.hid (by
              refine ⟨⟨_, _, hw3, fun x hx => ?_, ?_⟩, HI2.out.bel.trans (hk3.below HI2.out.bel.size fun k hk e => by omega)⟩
              · unfold updV putF
                by_cases e : x = p.n
                · rw [if_pos e, if_pos e]; rfl
                · rw [if_neg e, if_neg e]; exact HMF.out x hx
              · have h1 := HCM.out
                unfold rowsN at h1 ⊢
                first | omega | (split <;> omega))
            clear hw3 hk3 d1 hsn
            go_wp2
            go_roundg (g.length - (q + 1))
            case measure => have := HM2.out; have := HLQ.out; omega
            case rel => exact ⟨q + 1, by have := HLQ.out; omega, by go_num, _, HI3.out, HRN.out⟩
        · have hqi : ¬ (q : Int) < g.length := by omega
          have HRN : Hid (partAll (k + 1) (gs.drop (k + 1)) f' = R) := Lib.hid (by rw [← HRQ.out, show g.drop q = [] from List.drop_eq_nil_of_le (by omega)]; rfl)
          have HI3 : Hid (GrpI w w2 w.heap.size f' (rowsN (k + 1) 0)) := Lib.hid (by
            obtain ⟨c, M, a1, a2, a3⟩ := HI2.out.map
            exact ⟨⟨c, M, a1, a2, Nat.le_trans a3 (rowsN_next k q (by omega))⟩, HI2.out.bel⟩)
          go_wp2
          go_roundg (gs.length - (k + 1))
          case measure => have := HM.out; have := HLT.out; omega
          case rel => exact ⟨k + 1, by have := HLT.out; omega, by go_num, _, HI3.out, HRN.out⟩
    · have hki : ¬ (k : Int) < gs.length := by omega
      have HRF : Hid (R = some f) := Lib.hid (by rw [← HRK.out, show gs.drop k = [] from List.drop_eq_nil_of_le (by omega)]; rfl)
      have HNQ := Lib.hid (HN.out.on HI.out.bel)
      have d3 : w1.cell? ⟨n, 3, none⟩ = some gv := HNQ.out.box.cell 3
      have f3 : w1.frozen? ⟨n, 3, none⟩ = false := HNQ.out.box.frozen 3
      have z3 : n < w1.heap.size := HNQ.out.box.lt
      have HN2 : Hid (NetAt P n b (.map (some w.heap.size)) { s with grp := some f } (w1.setCell ⟨n, 3, none⟩ (.map (some w.heap.size)))) := Lib.hid (by
        obtain ⟨c, M, a1, a2, _⟩ := HI.out.map
        have h1 := HNL.out
        exact HNQ.out.setG (.inr ⟨w.heap.size, c, M, f, rfl, rfl, HP.out _ (Nat.le_refl _), by omega, by omega, a1.at_ (Below.heap_setCell w1 _ _ _ (by show w.heap.size ≠ n; omega)), a2⟩))
      have HK2 : Hid (Kept (fun k => k = n) w (w1.setCell ⟨n, 3, none⟩ (.map (some w.heap.size)))) := Lib.hid ((Kept.of HI.out.bel).trans (Kept.set (S := fun k => k = n) (p := ⟨n, 3, none⟩) _ rfl))
      go_wp2
      exact HF2.out f _ _ _ HRF.out rfl HN2.out HK2.out
end
end Go.Proofs.Ytmcdmcnbnnfhnaa
