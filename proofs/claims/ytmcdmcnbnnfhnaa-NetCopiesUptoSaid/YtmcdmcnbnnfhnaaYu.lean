/-
  Chapter 28: a loop over a map of messages; the program's Copy.
-/
import Derived.Maps.RangeWalk
import Derived.Ground.SlmcProg
import Derived.Shelf.SlMaps.Clone
import Derived.Test.YtmcdmcnbnnfhnaaVf
import Derived.Test.YtmcdmcnbnnfhnaaWb
namespace Go.Proofs.Ytmcdmcnbnnfhnaa
open Go.RowKit Go.Maps Go.Shelf
def cloneM_ren : Go.Shelf.Ren := ⟨fun | 5 => 55 | 7 => 78 | n => n, fun | 23 => 73 | 25 => 3 | 3 => 3 | 4 => 4 | 20 => 20 | n => n, fun | n => n⟩
theorem cloneM : Go.Proofs.SlLaysW.n5 Try.prog cloneM_ren := {
  mixed := by kernel_rfl
  f5 := ⟨Try.f55.name, by decide, Try.func55.trans (congrArg some (by kernel_rfl))⟩
  f7 := Try.func78.trans (congrArg some (by kernel_rfl))
  t4 := Try.underlying4
  a4 := Try.isAgg4
  z4 := Try.sizeOf4
  v4 := Try.zeroValue4
  t20 := Try.underlying20
  a20 := Try.isAgg20
  z20 := Try.sizeOf20
  v20 := Try.zeroValue20
  t23 := Try.underlying73
  a23 := Try.isAgg73
  z23 := Try.sizeOf73
  v23 := Try.zeroValue73 }
set_option maxRecDepth 100000

theorem i64_wf {x : Int} (h : (Lit.int .i64 x).wf = true) : I64 x := by
  rw [Lit.wf_int_iff] at h
  have h0 : IntKind.i64.min = -9223372036854775808 := by decide
  have h1 : IntKind.i64.max = 9223372036854775807 := by decide
  unfold I64; omega
/-- The keys of a map, ascending: as many as it has entries. -/
theorem MapV.keysL {w : World} {b n : Nat} {M : Int → Option Value} (h : MapV w b n M) : ∃ L : List Int, L.Pairwise (· < ·) ∧ L.length = n ∧ ∀ x, x ∈ L ↔ I64 x ∧ (M x).isSome = true := by
  obtain ⟨D, hown, hsz, hD⟩ := h
  obtain ⟨hnd, hmem⟩ := intKeys_spec hown
  refine ⟨(intKeys D).mergeSort leI, keys_sorted hnd, ?_, fun x => ?_⟩
  · rw [(List.mergeSort_perm _ leI).length_eq]
    obtain ⟨es, hD', _⟩ := hown.entries kdI
    rw [← hsz, hD']
    simp [intKeys, Maps.size]
  · rw [(List.mergeSort_perm _ leI).mem_iff, hmem]
    constructor
    · intro hx
      have hI := i64_wf (intKeys_wf hown Try.underlying3 x ((hmem x).2 hx))
      exact ⟨hI, by rw [← (hD x hI).1]; exact hx⟩
    · rintro ⟨hI, hx⟩
      rw [(hD x hI).1]; exact hx
/-- Two maps with the same keys have as many entries. -/
theorem MapV.same {w w' : World} {b b' n n' : Nat} {M M' : Int → Option Value} (h : MapV w b n M) (h' : MapV w' b' n' M') (he : ∀ x, I64 x → (M x).isSome = (M' x).isSome) : n = n' := by
  obtain ⟨L, h1, h2, h3⟩ := h.keysL
  obtain ⟨L', h1', h2', h3'⟩ := h'.keysL
  have : L = L' := sorted_ext h1 h1' fun x => by
    rw [h3, h3']
    constructor
    · rintro ⟨a, b⟩; exact ⟨a, by rw [← he x a]; exact b⟩
    · rintro ⟨a, b⟩; exact ⟨a, by rw [he x a]; exact b⟩
  subst this
  omega
/-- A loop over a map under way. -/
def RgV (w : World) (b r n : Nat) (M : Int → Option Value) (left : Lit → Bool) (cnt : Nat) : Prop :=
  ∃ D, w.ranges Try.prog 3 RV b r n D left cnt ∧ ∀ x, I64 x → Maps.has D (.int .i64 x) = (M x).isSome ∧ ∀ v, M x = some v → ∀ z, D.atKey (.int .i64 x) z = .held v
theorem RgV.at_ {w w' : World} {b r n cnt : Nat} {M : Int → Option Value} {left : Lit → Bool} (h : RgV w b r n M left cnt) (hb : w'.heap[b]? = w.heap[b]?) (hr : w'.heap[r]? = w.heap[r]?) : RgV w' b r n M left cnt := by
  obtain ⟨D, ⟨es, clock, since, seen, c0, h1, h2, h3, h4, h5, h6⟩, hD⟩ := h
  exact ⟨D, ⟨es, clock, since, seen, c0, hb.trans h1, h2, h3, h4, hr.trans h5, h6⟩, hD⟩
section
variable {w : World} {ops : Array Oper} {rest : List Oper} {o : Oper} {a : Act} {Q : Exit → Act → World → Prop} {b r n cnt : Nat} {M : Int → Option Value} {left : Lit → Bool}
theorem wpList_range_mapv (hg : o.guard = none) (m : Operand) (t : TypeId) (hop : o.op = Op.range t m) {e : TypeId} (ht : Try.prog.underlying t = some (.map 3 e)) (hm : a.eval m = .map (some b)) (hM : MapV w b n M)
    (hK : ∀ w' left, RgV w' b w.heap.size n M left n → (∀ x, I64 x → left (.int .i64 x) = (M x).isSome) → w.grownBy w' none → w'.heap.size = w.heap.size + 1 → wpList Try.prog ops Q rest (a.put o.dst (.pointer (some ⟨w.heap.size, 0, none⟩))) w') : wpList Try.prog ops Q (o :: rest) a w := by
  obtain ⟨D, hown, hsz, hD⟩ := hM
  refine wpList_range_own w hg m t hop 3 e kdI ht RV b n D hm hown fun w' r1 r2 r3 => ?_
  rw [hsz] at r1
  exact hK w' _ ⟨D, r1, hD⟩ (fun x hx => (hD x hx).1) r2 r3
theorem wpList_next_mapv (hg : o.guard = none) (it : Operand) (hop : o.op = Op.next it false) (hit : a.eval it = .pointer (some ⟨r, 0, none⟩)) (h : RgV w b r n M left cnt)
    (hDone : (∀ x, I64 x → left (.int .i64 x) = false) → wpList Try.prog ops Q rest (a.put o.dst (.tuple #[.bool false])) w)
    (hMore : ∀ (x : Int) (v : Value) (left' : Lit → Bool) (w' : World) (cnt' : Nat), I64 x → M x = some v → left (.int .i64 x) = true → RgV w' b r n M left' cnt' → (∀ y, left' (.int .i64 y) = (left (.int .i64 y) && !(y == x))) → cnt' < cnt → w.grownBy w' (some r) → w'.heap.size = w.heap.size →
      (Instr.entry (.pointer (some ⟨r, 0, none⟩))).run Try.prog w' = .ok (.tuple #[.int .i64 x, v]) w' → wpList Try.prog ops Q rest (a.put o.dst (.tuple #[.bool true, .int .i64 x, v])) w') : wpList Try.prog ops Q (o :: rest) a w := by
  obtain ⟨D, hr, hD⟩ := h
  have hu := Try.underlying3
  refine wpList_next_ranges w hg it hop 3 kdI RV (Value.int .i64) (fun v : Value => v) (fun key kl hk => by obtain ⟨x, rfl, _⟩ := Maps.keyOf_int_inv hu hk; exact ⟨x, rfl⟩) (fun v y _ => ⟨v, rfl⟩) b r n D left cnt hit hr (fun _ hl => hDone fun x _ => hl _) fun x c kl y w' cnt' hk hl hc hzd hr' hlt hgr hsz hen => ?_
  obtain ⟨x', e1, rfl, hw⟩ := Maps.keyOf_int_inv hu hk
  injection e1 with _ e1
  subst e1
  have hI := i64_wf hw
  unfold RV at hc
  injection hc with hc
  subst hc
  have h1 := Maps.has_true_of_atKey hzd
  have h2 := (hD x hI).1
  rw [h1] at h2
  obtain ⟨v, hv⟩ := Option.isSome_iff_exists.1 h2.symm
  have h3 := (hD x hI).2 v hv (.lit (.bool true))
  rw [hzd] at h3
  injection h3 with h3
  subst h3
  refine hMore x c _ w' cnt' hI hv hl ⟨D, hr', hD⟩ (fun y => ?_) hlt hgr hsz hen
  simp only [Lit.sameKey]
  congr 2
  by_cases e : y = x
  · rw [beq_t e]; simp [e]
  · rw [beq_f e]; simp [e]
end
theorem clone_none (w : World) : Calls Try.prog 55 #[.map none] w fun e w' => e = .returned (.map none) ∧ w' = w := AnyW.maps_Clone_nil cloneM w
theorem clone_some {k c : Nat} {M : Int → Option Value} {w : World} (h : MapV w k c M) : Calls Try.prog 55 #[.map (some k)] w fun e w' => e = .returned (.map (some w.heap.size)) ∧ MapV w' w.heap.size c M ∧ Below w.heap.size w w' := by
  obtain ⟨D, hown, hsz, hD⟩ := h
  refine (AnyW.maps_Clone_owns cloneM 3 RV k c D w hown).mono ?_
  rintro e w' ⟨rfl, h1, -, hb⟩
  exact ⟨rfl, ⟨D, h1, hsz, hD⟩, hb⟩
/-- The copy in the making: W the world at the start, r the loop's block. -/
structure CopyI (W : World) (b r cb mb : Nat) (gv : Value) (s : NetS) (M : Int → Option Value) (wr : World) (cnt : Nat) : Prop where
  bel : Below W.heap.size W wr
  box : Blk wr cb 75 (netC s mb gv)
  rg : ∃ left c' M', RgV wr b r s.cnt M left cnt ∧ MapV wr mb c' M' ∧ c' + cnt ≤ s.cnt ∧ (∀ x, I64 x → left (.int .i64 x) = ((M x).isSome && !(M' x).isSome)) ∧
    ∀ x, I64 x → (M' x).isSome = true → ∃ m, ∃ cs : List Value, s.ms x = some m ∧ M' x = some (.agg cs.toArray) ∧ CellsD (fun k => W.heap.size ≤ k ∧ k ≠ cb ∧ k ≠ mb ∧ k ≠ r) wr cs (msgD m)
def CopyMade (s : NetS) (w : World) (e : Ending) (w' : World) : Prop := ∃ (n' b' : Nat) (gv' : Value), e = .returned (.pointer (some ⟨n', 0, none⟩)) ∧ NetAt (fun k => w.heap.size ≤ k) n' b' gv' s w' ∧ Below w.heap.size w w'
theorem CopyI.on {W wr w' : World} {b r cb mb cnt : Nat} {gv : Value} {s : NetS} {M : Int → Option Value} (h : CopyI W b r cb mb gv s M wr cnt) (hb : Below wr.heap.size wr w') (hlb : b < W.heap.size) (hr : r < wr.heap.size) : CopyI W b r cb mb gv s M w' cnt := by
  obtain ⟨left, c', M', h1, h2, h3, h4, h5⟩ := h.rg
  have hsz := h.bel.size
  refine ⟨h.bel.trans (hb.mono hsz), h.box.on hb, left, c', M', h1.at_ (hb.block b (by omega)) (hb.block r hr), h2.on hb, h3, h4, fun x hx hm => ?_⟩
  obtain ⟨m, cs, q1, q2, q3⟩ := h5 x hx hm
  exact ⟨m, cs, q1, q2, q3.on hb⟩
section
variable {P : Nat → Prop} {n b : Nat} {gv : Value} {s : NetS} {w : World}
set_option maxHeartbeats 8000000
theorem copy_any (h : NetAt P n b gv s w) (hc : s.cnt ≤ 1000000000) : Calls Try.prog 28 #[.pointer (some ⟨n, 0, none⟩)] w (CopyMade s w) := by
  have HF : Hid (∀ n' b' gv' e w', e = .returned (.pointer (some ⟨n', 0, none⟩)) → NetAt (fun k => w.heap.size ≤ k) n' b' gv' s w' → Below w.heap.size w w' → CopyMade s w e w') := Lib.hid fun n' b' gv' e w' h1 h2 h3 => ⟨n', b', gv', h1, h2, h3⟩
  obtain ⟨go, rfl⟩ : ∃ go, gv = .map go := by
    rcases h.grp with ⟨rfl, -⟩ | ⟨k, c, M, f, rfl, -⟩
    · exact ⟨_, rfl⟩
    · exact ⟨_, rfl⟩
  have HN := Lib.hid h
  have HC := Lib.hid hc
  obtain ⟨M, hM, hM2⟩ := h.way
  have HM := Lib.hid hM
  have HM2 := Lib.hid hM2
  have HNL : Hid (n < w.heap.size ∧ b < w.heap.size) := Lib.hid ⟨h.box.lt, h.blt⟩
  generalize hQ : CopyMade s w = Q at *
  clear hQ h hc hM hM2
  go_enter Try.func28, Try.ntmps28
  have d0 : w.cell? ⟨n, 0, none⟩ = some (.int .i64 s.limit) := HN.out.box.cell 0
  have d1 : w.cell? ⟨n, 1, none⟩ = some (.int .i64 s.last) := HN.out.box.cell 1
  have d2 : w.cell? ⟨n, 2, none⟩ = some (.map (some b)) := HN.out.box.cell 2
  have d3 : w.cell? ⟨n, 3, none⟩ = some (.map go) := HN.out.box.cell 3
  have d4 : w.cell? ⟨n, 4, none⟩ = some (.int .i64 s.sent) := HN.out.box.cell 4
  have d5 : w.cell? ⟨n, 5, none⟩ = some (.int .i64 s.twice) := HN.out.box.cell 5
  have d6 : w.cell? ⟨n, 6, none⟩ = some (.int .i64 s.taken) := HN.out.box.cell 6
  have d7 : w.cell? ⟨n, 7, none⟩ = some (.int .i64 s.gone) := HN.out.box.cell 7
  go_upto_region 2 with fail
  change Code.wp _ _ _ _ (w.alloc (.cells (netC s b (.map go)) 75))
  have H1 : Hid (Blk (w.alloc (.cells (netC s b (.map go)) 75)) w.heap.size 75 (netC s b (.map go)) ∧ Below w.heap.size w (w.alloc (.cells (netC s b (.map go)) 75))) := Lib.hid ⟨Blk.new w _ _, (Below.refl _ _).alloc (Nat.le_refl _) _⟩
  generalize World.alloc w _ = w1 at H1 ⊢
  clear d0 d1 d2 d3 d4 d5 d6 d7
  have HBE1 := Lib.hid H1.out.2
  replace H1 := Lib.hid H1.out.1
  obtain ⟨cb, hcb⟩ : ∃ cb, cb = w.heap.size := ⟨_, rfl⟩
  rw [← hcb] at H1
  have HCB := Lib.hid hcb
  have d2 : w1.cell? ⟨cb, 2, none⟩ = some (.map (some b)) := H1.out.cell 2
  have f2 : w1.frozen? ⟨cb, 2, none⟩ = false := H1.out.frozen 2
  have z2 : cb < w1.heap.size := H1.out.lt
  rw [← hcb]
  clear hcb
  go_upto_region 3 with (refine wpList_map_made rfl 72 rfl ?_)
  have H2 : Hid (Blk ((w1.setCell ⟨cb, 2, none⟩ (.map (some w1.heap.size))).alloc (.map #[] 0)) cb 75 (netC s w1.heap.size (.map go)) ∧ Below w.heap.size w ((w1.setCell ⟨cb, 2, none⟩ (.map (some w1.heap.size))).alloc (.map #[] 0)) ∧ MapV ((w1.setCell ⟨cb, 2, none⟩ (.map (some w1.heap.size))).alloc (.map #[] 0)) w1.heap.size 0 (fun _ => none) ∧ w1.heap.size < ((w1.setCell ⟨cb, 2, none⟩ (.map (some w1.heap.size))).alloc (.map #[] 0)).heap.size ∧ cb < w1.heap.size) := Lib.hid (by
    have hs0 : (w1.setCell ⟨cb, 2, none⟩ (.map (some w1.heap.size))).heap.size = w1.heap.size := by simp [World.setCell]
    have hb := (Below.refl (w1.setCell ⟨cb, 2, none⟩ (.map (some w1.heap.size))).heap.size (w1.setCell ⟨cb, 2, none⟩ (.map (some w1.heap.size)))).alloc (Nat.le_refl _) (.map #[] 0)
    have hm := MapV.made (w1.setCell ⟨cb, 2, none⟩ (.map (some w1.heap.size)))
    rw [hs0] at hm
    have hbe := HBE1.out.setCell (p := ⟨cb, 2, none⟩) (by have := HCB.out; show w.heap.size ≤ cb; omega) (.map (some w1.heap.size))
    exact ⟨(H1.out.set_ 2 _).on hb, hbe.trans (hb.mono hbe.size), hm, by rw [World.size_alloc, hs0]; omega, z2⟩)
  generalize hmb : w1.heap.size = mb at H2 ⊢
  clear hmb
  generalize hw2 : World.alloc (World.setCell w1 _ _) _ = w2 at H2 ⊢
  clear hw2 d2 f2 z2 H1 HBE1
  have HMB := Lib.hid (HM.out.on H2.out.2.1)
  have d3 : w2.cell? ⟨n, 2, none⟩ = some (.map (some b)) := (HN.out.on H2.out.2.1).box.cell 2
  go_wp2_with (refine wpList_range_mapv rfl (.tmp 14) 72 rfl Try.underlying72 rfl HMB.out ?_)
  intro w3 left0 hrg0 hleft0 hg0 hs0
  have hb23 : Below w2.heap.size w2 w3 := ⟨hg0.os, hg0.tape, hg0.output, hg0.size, fun i hi => hg0.block i hi (by simp)⟩
  have HI0 : Hid (CopyI w b w2.heap.size cb mb (.map go) s M w3 s.cnt) := Lib.hid ⟨H2.out.2.1.trans (hb23.mono H2.out.2.1.size), H2.out.1.on hb23, left0, 0, fun _ => none, hrg0, H2.out.2.2.1.on hb23, by omega, fun x hx => by rw [hleft0 x hx]; simp, fun x hx hm => by cases hm⟩
  have HRB : Hid (w2.heap.size < w3.heap.size ∧ w.heap.size ≤ w2.heap.size ∧ mb < w2.heap.size ∧ cb < mb ∧ w.heap.size ≤ cb) := Lib.hid ⟨by omega, H2.out.2.1.size, H2.out.2.2.2.1, H2.out.2.2.2.2, by have := HCB.out; omega⟩
  clear hrg0 hleft0 hg0 hs0 hb23 d3 HMB H2
  generalize w2.heap.size = rb at *
  go_wp2
  go_loopg [] s.cnt (fun cnt wr => CopyI w b rb cb mb (.map go) s M wr cnt ∧ rb < wr.heap.size)
  case atStart => exact ⟨HI0.out, HRB.out.1⟩
  case round =>
    rename World => w4
    obtain ⟨hci, hrl⟩ := hrel
    have HCI := Lib.hid hci
    obtain ⟨left, c', M', hrg, hmv, hcc, hlf, hcs⟩ := hci.rg
    have HRG := Lib.hid hrg
    have HMV := Lib.hid hmv
    have HCC := Lib.hid hcc
    have HLF := Lib.hid hlf
    have HCS := Lib.hid hcs
    have HRL := Lib.hid hrl
    clear hci hrg hmv hcc hlf hcs hrl HI0
    go_wp2_with (refine wpList_next_mapv rfl (.tmp 15) rfl rfl HRG.out ?_ ?_)
    · intro hdone
      have HALL : Hid (∀ x, I64 x → (M x).isSome = (M' x).isSome) := Lib.hid fun x hx => by
        have h1 := HLF.out x hx
        rw [hdone x hx] at h1
        cases hm' : (M' x).isSome with
        | true =>
          obtain ⟨m, cs, q1, q2, q3⟩ := HCS.out x hx hm'
          obtain ⟨cs2, q4, -⟩ := (HM2.out x hx).2 m q1
          rw [q4]; rfl
        | false =>
          rw [hm'] at h1
          cases hm : (M x).isSome with
          | false => rfl
          | true => rw [hm] at h1; cases h1
      have HCN : Hid (c' = s.cnt) := Lib.hid (MapV.same HMV.out HM.out fun x hx => (HALL.out x hx).symm)
      clear hdone
      have HN4 := Lib.hid (HN.out.on HCI.out.bel)
      have d5 : w4.cell? ⟨n, 3, none⟩ = some (.map go) := HN4.out.box.cell 3
      have HWAY : Hid (WayAt (fun k => w.heap.size ≤ k) w4 cb mb s.cnt s.ms) := Lib.hid (by
        refine ⟨M', by rw [← HCN.out]; exact HMV.out, fun x hx => ⟨fun hn => ?_, fun m hm => ?_⟩⟩
        · have h1 := (HM2.out x hx).1 hn
          have h2 := HALL.out x hx
          rw [h1] at h2
          cases hm : M' x with
          | none => rfl
          | some v => rw [hm] at h2; cases h2
        · obtain ⟨cs2, q4, -⟩ := (HM2.out x hx).2 m hm
          have h2 := HALL.out x hx
          rw [q4] at h2
          obtain ⟨m', cs, q1, q2, q3⟩ := HCS.out x hx h2.symm
          rw [hm] at q1
          injection q1 with q1
          subst q1
          exact ⟨cs, q2, q3.mono fun k hk _ => ⟨hk.1, hk.2.1, hk.2.2.1⟩⟩)
      rcases HN4.out.grp with ⟨hgo, hgn⟩ | ⟨k, c, Mg, f, hgo, hgs, hpk, hkn, hkb, hmg, hfg⟩
      · injection hgo with hgo
        subst hgo
        have HG := Lib.hid hgn
        clear hgn
        go_wp2_with fail
        refine (clone_none w4).mono ?_
        rintro e w5 ⟨rfl, rfl⟩
        rename World => w5
        have d6 : w5.cell? ⟨cb, 3, none⟩ = some (.map none) := HCI.out.box.cell 3
        have f6 : w5.frozen? ⟨cb, 3, none⟩ = false := HCI.out.box.frozen 3
        have z6 : cb < w5.heap.size := HCI.out.box.lt
        have HK : Hid (Below w.heap.size w (w5.setCell ⟨cb, 3, none⟩ (.map none))) := Lib.hid (HCI.out.bel.setCell (p := ⟨cb, 3, none⟩) HRB.out.2.2.2.2 _)
        have HR : Hid (NetAt (fun k => w.heap.size ≤ k) cb mb (.map none) s (w5.setCell ⟨cb, 3, none⟩ (.map none))) := Lib.hid (by
          have hne : ∀ k, k ≠ cb → (w5.setCell ⟨cb, 3, none⟩ (.map none)).heap[k]? = w5.heap[k]? := fun k hk => Below.heap_setCell w5 _ _ k hk
          have hsz : w5.heap.size ≤ (w5.setCell ⟨cb, 3, none⟩ (.map none)).heap.size := by simp [World.setCell]
          refine ⟨HRB.out.2.2.2.2, by have := HRB.out; omega, by have := HRB.out; omega, HCI.out.box.set_ 3 _, HWAY.out.keep (hne mb (by have := HRB.out; omega)) hsz fun k _ hn _ _ => hne k hn, .inl ⟨rfl, HG.out⟩⟩)
        go_wp2
        exact HF.out _ _ _ _ _ rfl HR.out HK.out
      · injection hgo with hgo
        subst hgo
        have HG := Lib.hid hgs
        have HFG := Lib.hid hfg
        have HCL := Lib.hid (clone_some hmg)
        clear hgs hfg hpk hkn hkb hmg
        go_wp2_with fail
        refine HCL.out.mono ?_
        rintro e w5 ⟨rfl, hmg5, hb5⟩
        have HC5 := Lib.hid (HCI.out.on hb5 HNL.out.2 HRL.out)
        have HM5 := Lib.hid hmg5
        have HW5 : Hid (WayAt (fun k => w.heap.size ≤ k) w5 cb mb s.cnt s.ms) := Lib.hid (HWAY.out.keep (hb5.block mb (by have := HRB.out; have := HRL.out; omega)) hb5.size fun k _ _ _ hlt => hb5.block k hlt)
        have HZ4 : Hid (rb < w4.heap.size) := Lib.hid HRL.out
        clear hmg5 hb5 HCL d5
        have d6 : w5.cell? ⟨cb, 3, none⟩ = some (.map (some k)) := HC5.out.box.cell 3
        have f6 : w5.frozen? ⟨cb, 3, none⟩ = false := HC5.out.box.frozen 3
        have z6 : cb < w5.heap.size := HC5.out.box.lt
        have HK : Hid (Below w.heap.size w (w5.setCell ⟨cb, 3, none⟩ (.map (some w4.heap.size)))) := Lib.hid (HC5.out.bel.setCell (p := ⟨cb, 3, none⟩) HRB.out.2.2.2.2 _)
        have HR : Hid (NetAt (fun k => w.heap.size ≤ k) cb mb (.map (some w4.heap.size)) s (w5.setCell ⟨cb, 3, none⟩ (.map (some w4.heap.size)))) := Lib.hid (by
          have hne : ∀ k, k ≠ cb → (w5.setCell ⟨cb, 3, none⟩ (.map (some w4.heap.size))).heap[k]? = w5.heap[k]? := fun k hk => Below.heap_setCell w5 _ _ k hk
          have hsz : w5.heap.size ≤ (w5.setCell ⟨cb, 3, none⟩ (.map (some w4.heap.size))).heap.size := by simp [World.setCell]
          refine ⟨HRB.out.2.2.2.2, by have := HRB.out; omega, by have := HRB.out; omega, HC5.out.box.set_ 3 _, HW5.out.keep (hne mb (by have := HRB.out; omega)) hsz fun k _ hn _ _ => hne k hn, .inr ⟨w4.heap.size, c, Mg, f, rfl, HG.out, by have := HRB.out; have := HZ4.out; omega, by have := HRB.out; have := HZ4.out; omega, by have := HRB.out; have := HZ4.out; omega, HM5.out.at_ (hne _ (by have := HRB.out; have := HZ4.out; omega)), HFG.out⟩⟩)
        go_wp2
        exact HF.out _ _ _ _ _ rfl HR.out HK.out
    · intro x v left' w5 cnt1 hxI hMx hlx hrg1 hlf1 hlt5 hg1 hs1 hen
      have hb5 : Kept (fun k => k = rb) w4 w5 := ⟨hg1.os, hg1.tape, hg1.output, hg1.size, fun i hi hn => hg1.block i hi fun e => hn (by injection e)⟩
      obtain ⟨m, hms⟩ : ∃ m, s.ms x = some m := by
        cases hm : s.ms x with
        | none => rw [(HM2.out x hxI).1 hm] at hMx; cases hMx
        | some m => exact ⟨m, rfl⟩
      obtain ⟨cs, hcs1, hcs2⟩ := (HM2.out x hxI).2 m hms
      rw [hMx] at hcs1
      injection hcs1 with hcs1
      subst hcs1
      have HMS := Lib.hid hms
      have HXI := Lib.hid hxI
      have HM'X : Hid ((M' x).isSome = false) := Lib.hid (by
        have h1 := HLF.out x hxI
        rw [hlx, hMx] at h1
        cases hh : (M' x).isSome with
        | false => rfl
        | true => rw [hh] at h1; cases h1)
      have HRG5 := Lib.hid hrg1
      have HLF5 := Lib.hid hlf1
      have HLT5 := Lib.hid hlt5
      have HB5 : Hid (Below w.heap.size w w5 ∧ w5.heap.size = w4.heap.size) := Lib.hid ⟨HCI.out.bel.trans (hb5.below HCI.out.bel.size fun k hk e => by have := HRB.out; omega), hs1⟩
      have HX5 := Lib.hid (hb5.blk HCI.out.box (by have := HRB.out; omega))
      have HMV5 := Lib.hid (HMV.out.kept hb5 (by have := HRB.out; omega))
      have HCS5 : Hid (∀ x, I64 x → (M' x).isSome = true → ∃ m, ∃ cs : List Value, s.ms x = some m ∧ M' x = some (.agg cs.toArray) ∧ CellsD (fun k => w.heap.size ≤ k ∧ k ≠ cb ∧ k ≠ mb ∧ k ≠ rb) w5 cs (msgD m)) := Lib.hid fun x hx hm => by
        obtain ⟨m, cs, q1, q2, q3⟩ := HCS.out x hx hm
        exact ⟨m, cs, q1, q2, q3.1, fun i u d e1 e2 => (q3.2 i u d e1 e2).kept hb5 fun k hk => hk.2.2.2⟩
      have HLEN := Lib.hid (msg_len hcs2)
      have HONE := Lib.hid (CellsD.all hcs2)
      have HMC := Lib.hid (hcs2.on HB5.out.1)
      have HSM : Hid (Blk (w5.alloc (.cells zeroC.toArray 39)) w5.heap.size 39 zeroC.toArray) := Lib.hid (Blk.new w5 _ _)
      have HC1 : Hid (c' < s.cnt) := Lib.hid (by have := HCC.out; omega)
      clear hb5 hms hxI hMx hlx hrg1 hlf1 hlt5 hg1 hs1 hcs2
      obtain ⟨GG, hGG⟩ : ∃ GG, GG = gk := ⟨_, rfl⟩
      subst hGG
      go_upto_region 6 with (refine wpList_store_msg rfl (.tmp 5) (.tmp 20) rfl w5.heap.size zeroC.toArray cs rfl rfl HSM.out rfl HLEN.out HONE.out ?_; intro w6 hB6 hk6)
      have H56 : Hid (Below w5.heap.size w5 w6) := Lib.hid (((Kept.of ((Below.refl w5.heap.size w5).alloc (Nat.le_refl _) (.cells zeroC.toArray 39)) : Kept (fun b => b = w5.heap.size) w5 _).trans hk6).below (Nat.le_refl _) fun k hk e => by omega)
      have HB6 := Lib.hid hB6
      have HX6 := Lib.hid (HX5.out.on H56.out)
      have HMC6 := Lib.hid (HMC.out.on H56.out)
      have H6 : Hid (Below w.heap.size w w6 ∧ rb < w6.heap.size ∧ mb < w6.heap.size) := Lib.hid ⟨HB5.out.1.trans (H56.out.mono HB5.out.1.size), by have := H56.out.size; have := HB5.out.2; have := HRL.out; omega, by have := H56.out.size; have := HB5.out.2; have := HRL.out; have := HRB.out; omega⟩
      have HRG6 := Lib.hid (HRG5.out.at_ (H56.out.block b (by have := HB5.out.1.size; have := HNL.out; omega)) (H56.out.block rb (by have := HB5.out.2; have := HRL.out; omega)))
      have HMV6 := Lib.hid (HMV5.out.on H56.out)
      have HCS6 : Hid (∀ x, I64 x → (M' x).isSome = true → ∃ m, ∃ cs : List Value, s.ms x = some m ∧ M' x = some (.agg cs.toArray) ∧ CellsD (fun k => w.heap.size ≤ k ∧ k ≠ cb ∧ k ≠ mb ∧ k ≠ rb) w6 cs (msgD m)) := Lib.hid fun x hx hm => by
        obtain ⟨m, cs, q1, q2, q3⟩ := HCS5.out x hx hm
        exact ⟨m, cs, q1, q2, q3.on H56.out⟩
      clear hB6 hk6 HSM H56 HCS5
      generalize w5.heap.size = g5 at *
      refine region_tail [.is (.pointer (some ⟨cb, 2, none⟩)), .is (.map (some mb)), .is (.int .i64 x), .is (.agg cs.toArray), (.has (fun y wz => ∃ cs2 : List Value, y = .agg cs2.toArray ∧ CellsD (fun k => w6.heap.size ≤ k) wz cs2 (msgD m)) fun y wa wb hb ⟨cs2, e, h⟩ => ⟨cs2, e, h.on hb⟩), .is undef] 5 (by kernel_rfl) rfl (by kernel_rfl) (by kernel_rfl) (by kernel_rfl) (by kernel_rfl) rfl (.cons ?u_0 (.cons ?u_1 (.cons ?u_2 (.cons ?u_3 (.cons ?u_4 .nil))))) ?u_fin
      case u_0 =>
        intro wq hbw st  K hK
        simp only [Act.put, List.setIfInBounds_toArray, List.set_cons_zero, List.set_cons_succ] at hK ⊢
        unfold opStep
        rw [if_pos (by rfl)]
        go_simp
        exact hK.out _ _ (Below.refl _ _) rfl _ rfl
      case u_1 =>
        intro wq hbw st  K hK
        simp only [Act.put, List.setIfInBounds_toArray, List.set_cons_zero, List.set_cons_succ] at hK ⊢
        unfold opStep
        rw [if_pos (by rfl)]
        have d2 : wq.cell? ⟨cb, 2, none⟩ = some (.map (some mb)) := (HX6.out.on hbw).cell 2
        go_simp
        exact hK.out _ _ (Below.refl _ _) rfl _ rfl
      case u_2 =>
        intro wq hbw st  K hK
        simp only [Act.put, List.setIfInBounds_toArray, List.set_cons_zero, List.set_cons_succ] at hK ⊢
        unfold opStep
        rw [if_pos (by rfl)]
        go_simp
        exact hK.out _ _ (Below.refl _ _) rfl _ rfl
      case u_3 =>
        intro wq hbw st  K hK
        simp only [Act.put, List.setIfInBounds_toArray, List.set_cons_zero, List.set_cons_succ] at hK ⊢
        unfold opStep
        rw [if_pos (by rfl)]
        refine wp_load_msg (.tmp 5) (by rfl) g5 cs (by rfl) (HB6.out.on hbw) HLEN.out ?_
        exact hK.out _ _ (Below.refl _ _) rfl _ rfl
      case u_4 =>
        intro wq hbw st  K hK
        simp only [Act.put, List.setIfInBounds_toArray, List.set_cons_zero, List.set_cons_succ] at hK ⊢
        unfold opStep
        rw [if_pos (by rfl)]
        go_simp
        refine (message_any m cs wq (HMC6.out.on hbw)).mono ?_
        rintro e wz ⟨cs2, rfl, hbz, hc2⟩
        go_simp
        exact hK.out _ _ hbz ⟨cs2, rfl, hc2.mono fun k hk _ => Nat.le_trans hbw.size hk⟩ _ rfl
      case u_fin =>
        intro wq hbw
        intro x4 h4
        try simp only [FinAll]
        simp only [List.drop_succ_cons, List.drop_zero]
        simp only [Act.put, List.setIfInBounds_toArray, List.set_cons_zero, List.set_cons_succ]
        obtain ⟨cs2, rfl, hc2⟩ := h4
        have HC2 := Lib.hid hc2
        have HMVq := Lib.hid (HMV6.out.on hbw)
        have HBq := Lib.hid (H6.out.1.trans (hbw.mono H6.out.1.size))
        have HSZ := Lib.hid hbw.size
        have HRGq := Lib.hid (HRG6.out.at_ (hbw.block b (by have := H6.out.1.size; have := HNL.out; omega)) (hbw.block rb H6.out.2.1))
        have HXq := Lib.hid (HX6.out.on hbw)
        have HCSq : Hid (∀ x, I64 x → (M' x).isSome = true → ∃ m, ∃ cs : List Value, s.ms x = some m ∧ M' x = some (.agg cs.toArray) ∧ CellsD (fun k => w.heap.size ≤ k ∧ k ≠ cb ∧ k ≠ mb ∧ k ≠ rb) wq cs (msgD m)) := Lib.hid fun x hx hm => by
          obtain ⟨m, cs, q1, q2, q3⟩ := HCS6.out x hx hm
          exact ⟨m, cs, q1, q2, q3.on hbw⟩
        clear hc2 hbw
        refine wpList_mapv_put rfl 72 (.tmp 22) (.tmp 23) (.tmp 25) rfl Try.underlying72 rfl HMVq.out (by have h1 := HC1.out; have h2 := HC.out; unfold maxLen; omega) rfl HXI.out rfl ?_
        intro w8 hw8 hk8
        rw [HM'X.out] at hw8
        have HI8 : Hid (CopyI w b rb cb mb (.map go) s M w8 cnt1 ∧ rb < w8.heap.size) := Lib.hid (by
          have hsz := HSZ.out
          have hrb := HRB.out
          have h6 := H6.out
          have hnl := HNL.out
          refine ⟨⟨HBq.out.trans (hk8.below HBq.out.size fun k hk e => by omega), hk8.blk HXq.out (by omega), left', c' + 1, updV M' x (some (.agg cs2.toArray)), HRGq.out.at_ (hk8.block b (by have := HBq.out.size; omega) (by omega)) (hk8.block rb (by omega) (by omega)), hw8, by have := HCC.out; have := HLT5.out; omega, fun y hy => ?_, fun y hy hm => ?_⟩, by have := hk8.size; omega⟩
          · rw [HLF5.out y, HLF.out y hy]
            unfold updV
            by_cases e : y = x
            · rw [if_pos e, beq_t e]; simp
            · rw [if_neg e, beq_f e]; simp
          · unfold updV at hm ⊢
            by_cases e : y = x
            · subst e
              refine ⟨m, cs2, HMS.out, by rw [if_pos rfl], HC2.out.1, fun i u d e1 e2 => ((HC2.out.2 i u d e1 e2).kept hk8 fun k hk => by omega).mono fun k hk _ => ⟨by omega, by omega, by omega, by omega⟩⟩
            · rw [if_neg e] at hm
              obtain ⟨m', cs', q1, q2, q3⟩ := HCSq.out y hy hm
              exact ⟨m', cs', q1, by rw [if_neg e]; exact q2, q3.1, fun i u d e1 e2 => (q3.2 i u d e1 e2).kept hk8 fun k hk => hk.2.2.1⟩)
        clear hw8 hk8
        go_wp2
        go_roundg cnt1
        case measure => exact HLT5.out
        case rel => exact HI8.out
end
end Go.Proofs.Ytmcdmcnbnnfhnaa
