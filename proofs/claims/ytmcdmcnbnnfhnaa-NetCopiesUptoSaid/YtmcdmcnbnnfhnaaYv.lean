/-
  Chapter 28: the reference network's Copy.
-/
import Derived.Deep.Upon
import Derived.Test.YtmcdmcnbnnfhnaaYt
namespace Go.Proofs.Ytmcdmcnbnnfhnaa
open Go.RowKit
set_option maxRecDepth 100000

theorem elemInts : ElemOk Try.prog 52 59 1 24 := by
  obtain ⟨i0, hi, hz0, hz1, hz2⟩ := info_parts (show (Try.prog.info? 59).map (fun i => (i.zero, i.size, i.bytes)) = some (some (.slice none 0 0), 1, 24) from by kernel_rfl)
  exact ⟨Try.underlying52, i0, _, hi, hz0, hz1, hz2, rfl, by decide⟩
/-- append to an empty slice of no room: nothing that was there is written. -/
theorem run_append_zero {P : Program} {w : World} {base : Nat} {t ty e : TypeId} {size bytes : Nat} (hE : ElemOk P t e size bytes) {g : Nat} {ao : Option Addr} {m c : Nat} {news : List Value} (h0 : ao = none → m = 0 ∧ c = 0) (hl : news.length = m * size) (hn1 : ∀ ad, ao = some ad → ∀ j u, news[j]? = some u → w.cell? (ad.add j) = some u) (h1 : ∀ u ∈ news, u.oneCell' = true)
    (hown : w.ownsRow base e size (.slice (some ⟨g, 0, none⟩) 0 0) 0 []) (h63 : m ≤ maxLen) (hbytes : m * bytes ≤ 140737488355328) (hbase : base ≤ w.heap.size) :
    ∃ v' w', (Builtin.append_ #[t, t] ty #[.slice (some ⟨g, 0, none⟩) 0 0, .slice ao m c]).run P w = .ok v' w' ∧ w'.ownsRow base e size v' m news ∧ Below w.heap.size w w' := by
  have hE' := hE
  obtain ⟨ht, i0, z, hi, hz0, hz1, hz2, hz3, hsz⟩ := hE
  by_cases hm : m = 0
  · subst hm
    have hnil : news = [] := List.length_eq_zero_iff.1 (by rw [hl, Nat.zero_mul])
    subst hnil
    have hs : Src P i0.size t (.slice ao 0 c) 0 [] w := by
      cases ao with
      | none => rw [(h0 rfl).2]; exact Src.ofNil w ht 0
      | some ad => exact Src.ofSlice w ht ad 0 c [] (by simp) (fun j u hu => by simp at hu) (fun u hu => by simp at hu)
    exact ⟨_, w, run_append_nothing w t t ty e i0 ht hi (some ⟨g, 0, none⟩) 0 0 (Nat.le_refl _) _ hs, hown, Below.refl _ _⟩
  · obtain ⟨ad, rfl⟩ : ∃ ad, ao = some ad := by
      cases ao with
      | none => exact (hm (h0 rfl).1).elim
      | some ad => exact ⟨ad, rfl⟩
    obtain ⟨v', w', hr, h2, -, -⟩ := run_append_blk (ty := ty) (c := c) hE' hl (hn1 ad rfl) h1 hown (by omega) (by rw [Nat.zero_add]; exact hbytes) hbase
    have hsmall : m ≤ 9223372036854775807 := by simp only [maxLen] at h63; omega
    have hr2 := run_append_grow (P := P) w t ty e i0 z ht hi hz0 ⟨g, 0, none⟩ 0 0 [] (by simp) (fun j u hu => by simp at hu) ad m c news (by rw [hz1]; exact hl) (hn1 ad rfl) (by omega) (by omega) (growslice_fits (by omega) (by rw [hz2, Nat.zero_add]; exact hbytes))
    have hr3 := hr
    rw [hr2] at hr3
    injection hr3 with e1 e2
    refine ⟨v', w', hr, by simpa using h2, ?_⟩
    rw [← e2]
    exact (show Below w.heap.size w w.drew from ⟨rfl, rfl, rfl, Nat.le_refl _, fun _ _ => rfl⟩).alloc (Nat.le_refl _) _
theorem wp_append_zero {P : Program} {o : Oper} {a : Act} {w : World} {K : Act → World → Prop} {Q : Exit → Act → World → Prop} (s x : Operand) (t : TypeId) (ho : o.op = .call { callee := .builtin .append, args := #[s, x], argTypes := #[t, t] })
    (base : Nat) {e : TypeId} {size bytes : Nat} (hE : ElemOk P t e size bytes) (g : Nat) (ao : Option Addr) (m c : Nat) (news : List Value) (hs : a.eval s = .slice (some ⟨g, 0, none⟩) 0 0) (hx : a.eval x = .slice ao m c) (h0 : ao = none → m = 0 ∧ c = 0)
    (hl : news.length = m * size) (hn1 : ∀ ad, ao = some ad → ∀ j u, news[j]? = some u → w.cell? (ad.add j) = some u) (h1 : ∀ u ∈ news, u.oneCell' = true) (hown : w.ownsRow base e size (.slice (some ⟨g, 0, none⟩) 0 0) 0 []) (h63 : m ≤ maxLen) (hbytes : m * bytes ≤ 140737488355328) (hbase : base ≤ w.heap.size)
    (h : ∀ v' w', w'.ownsRow base e size v' m news → Below w.heap.size w w' → K (a.put o.dst v') w') : o.wp P a w K Q := by
  obtain ⟨v', w', hr, h1, h2⟩ := run_append_zero (ty := o.type) (c := c) hE h0 hl hn1 h1 hown h63 hbytes hbase
  unfold Oper.wp execOp
  simp only [ho, resolve, invoke, builtin, Sem.run_bind, Sem.run_pure, Result.andThen_ok, List.map_toArray, List.map_cons, List.map_nil, hs, hx, hr]
  exact h v' w' h1 h2
/-- A row as a source. -/
theorem own_src {w : World} {B n c size : Nat} {e : TypeId} {ao : Option Addr} {xs : List Value} (h : w.ownsRow B e size (.slice ao n c) n xs) : (ao = none → n = 0 ∧ c = 0) ∧ ∀ wq, Below w.heap.size w wq → ∀ ad, ao = some ad → ∀ j u, xs[j]? = some u → wq.cell? (ad.add j) = some u := by
  refine ⟨fun e => ?_, fun wq hq ad e j u hu => ?_⟩
  · subst e
    rcases h.2 with ⟨e1, e2⟩ | ⟨g, cap, cur, e1, -⟩
    · injection e1 with _ _ e3; exact ⟨e2, e3⟩
    · injection e1 with e1; cases e1
  · subst e
    rcases h.2 with ⟨e1, e2⟩ | ⟨g, cap, cur, e1, -⟩
    · injection e1 with e1; cases e1
    · injection e1 with e1 _ _
      injection e1 with e1
      subst e1
      exact (ownK_on h hq).cells (g := g) rfl j u hu
theorem GrpR.src {B n c : Nat} {Q : Nat → Prop} {w : World} {ao : Option Addr} {gs : List (List GI)} (h : GrpR B Q w (.slice ao n c) gs) : ∃ cg : List Value, cg.length = gs.length ∧ n = gs.length ∧ gs.length ≤ 1048576 ∧ (ao = none → n = 0 ∧ c = 0) ∧ (∀ wq, Below w.heap.size w wq → ∀ ad, ao = some ad → ∀ j u, cg[j]? = some u → wq.cell? (ad.add j) = some u) ∧ (∀ u ∈ cg, u.oneCell' = true) ∧ ∀ j (h : j < gs.length), ∃ u, cg[j]? = some u ∧ ReadsD (fun k => k < B) w u (rowD gs[j]) := by
  rcases h with h | ⟨g, cells, h1, h2, h3, h4, h5⟩
  · have hlen : (gs.map fun g => [rowD g]).length = gs.length := by rw [List.length_map]
    obtain ⟨ao', cap', e0, hc1, hc2, hc3, hc4⟩ := ReadsD.slc (show ReadsD _ w _ (.ls 1 (gs.map fun g => [rowD g])) from h)
    injection e0 with e1 e2 e3
    subst e1 e3
    rw [hlen] at e2 hc1 hc4
    cases ao with
    | none =>
      have hc0 := hc3 rfl
      have hg0 : gs = [] := List.length_eq_zero_iff.1 (by omega)
      subst hg0
      exact ⟨[], rfl, e2, hc4, fun _ => ⟨e2, hc0⟩, (fun _ _ _ e => by cases e), (fun u hu => absurd hu (List.not_mem_nil)), fun j hj => absurd hj (Nat.not_lt_zero _)⟩
    | some ad =>
      obtain ⟨-, us, q1, q2, q3⟩ := ReadsD.cells (show ReadsD _ w _ (.ls 1 (gs.map fun g => [rowD g])) from h)
      have key : ∀ j (hj : j < gs.length), ReadsD (fun k => k < B) w (us j 0) (rowD gs[j]) := fun j hj => by
        have h1 := q1 j (by rw [hlen]; exact hj) 0 (by rw [q2 j (by rw [hlen]; exact hj)]; decide)
        have h2 : (gs.map fun g => [rowD g])[j]'(by rw [hlen]; exact hj) = [rowD gs[j]] := List.getElem_map ..
        simp only [h2] at h1
        exact h1
      have hget : ∀ j (hj : j < gs.length), ((List.range ((gs.map fun g => [rowD g]).length * 1)).map fun q => us (q / 1) (q % 1))[j]? = some (us j 0) := fun j hj => by
        rw [List.getElem?_map, List.getElem?_range (by rw [hlen]; omega), Option.map_some, Nat.div_one, Nat.mod_one]
      have hcells : ∀ wq, Below w.heap.size w wq → ∀ ad', some ad = some ad' → ∀ j u, ((List.range ((gs.map fun g => [rowD g]).length * 1)).map fun q => us (q / 1) (q % 1))[j]? = some u → wq.cell? (ad'.add j) = some u := fun wq hq ad' e j u hu => by
        injection e with e
        subst e
        have hj : j < gs.length := by
          have := (List.getElem?_eq_some_iff.1 hu).1
          simp at this; exact this
        have h1 := q3 j u hu
        obtain ⟨b, off, cap, us2, ev, -, hb, -⟩ := ReadsD.elem (show ReadsD _ w _ (.ls 1 (gs.map fun g => [rowD g])) from h) (j := j) (by rw [hlen]; exact hj)
        injection ev with ev _ _
        injection ev with ev
        subst ev
        rw [addrO] at h1 ⊢
        exact (hq.cell (p := ⟨b, off + j, none⟩) hb).trans h1
      refine ⟨(List.range ((gs.map fun g => [rowD g]).length * 1)).map fun q => us (q / 1) (q % 1), by rw [List.length_map, List.length_range, hlen, Nat.mul_one], e2, hc4, (fun e => by cases e), hcells, fun u hu => ?_, fun j hj => ⟨_, hget j hj, key j hj⟩⟩
      obtain ⟨j, hj, rfl⟩ := List.getElem_of_mem hu
      have hj' : j < gs.length := by simpa using hj
      have h1 := hget j hj'
      rw [List.getElem?_eq_getElem hj] at h1
      injection h1 with h1
      rw [h1]
      exact (key j hj').one
  · have hn : n = gs.length := by
      obtain ⟨a, c', e⟩ := row_slc h3
      injection e
    subst hn
    obtain ⟨s1, s2⟩ := own_src h3
    refine ⟨cells, by have := h3.1; omega, rfl, h4, s1, s2, fun u hu => ?_, h5⟩
    obtain ⟨j, hj, rfl⟩ := List.getElem_of_mem hu
    have hj' : j < gs.length := by have := h3.1; omega
    obtain ⟨u, a, b⟩ := h5 j hj'
    rw [List.getElem?_eq_getElem hj] at a
    injection a with a
    rw [a]
    exact b.one
/-- The copy's parts. -/
def CopyR (W : World) (r : RefS) (cm cg : List Value) (v : Value) (w : World) : Prop :=
  ∃ nv mv gv, v = .agg (refC r nv mv gv) ∧ w.ownsRow W.heap.size 3 1 nv r.nums.length (r.nums.map vi) ∧ w.ownsRow W.heap.size 39 15 mv r.msgs.length cm ∧ w.ownsRow W.heap.size 59 1 gv r.gs.length cg
theorem RefAt.copied {B : Nat} {W w : World} {r : RefS} {cm cg : List Value} {nv mv gv : Value} (hb : Below W.heap.size W w) (hB : B ≤ W.heap.size) (h1 : w.ownsRow W.heap.size 3 1 nv r.nums.length (r.nums.map vi)) (h2 : w.ownsRow W.heap.size 39 15 mv r.msgs.length cm) (h3 : w.ownsRow W.heap.size 59 1 gv r.gs.length cg)
    (hm : MsgRow B W cm r.msgs) (hl : r.gs.length ≤ 1048576) (hg : ∀ j (h : j < r.gs.length), ∃ u, cg[j]? = some u ∧ ReadsD (fun k => k < B) W u (rowD r.gs[j])) : RefAt B (fun k => W.heap.size ≤ k) w.heap.size nv mv gv r (w.alloc (.cells (refC r nv mv gv) 120)) := by
  have hbb : Below w.heap.size w (w.alloc (.cells (refC r nv mv gv) 120)) := (Below.refl _ _).alloc (Nat.le_refl _) _
  have hba := hb.trans (hbb.mono hb.size)
  have hsz := hb.size
  refine ⟨Blk.new w _ _, ⟨hsz, by rw [World.size_alloc]; omega, fun k hk => Nat.le_trans hB hk, by rw [World.size_alloc]; omega, ownsRow_base (ownK_on h1 hbb) hB, KeptL.of (ownsRow_base (ownK_on h2 hbb) hB) (hm.keep hba.size fun b hb' _ => hba.block b (by omega)), ?_, fun k e => ?_, fun k e => ?_⟩⟩
  · by_cases h0 : r.gs.length = 0
    · have hnil : r.gs = [] := List.length_eq_zero_iff.1 h0
      rw [hnil] at h3 ⊢
      refine .inl ?_
      rcases h3.2 with ⟨rfl, -⟩ | ⟨g, cap, cur, rfl, -, -, -, hc, -⟩
      · exact .nil 1 none 0 (by simp [maxLen]) fun _ => rfl
      · exact .nil 1 _ cap hc fun e => by cases e
    · obtain ⟨g, cap, e0, hgB, hgl, -⟩ := ownK_at h3 (by omega)
      refine .inr ⟨g, cg, by rw [e0]; rfl, ⟨hgB, by omega, fun e => ?_, fun e => ?_⟩, row_zero (ownK_on h3 hbb), hl, fun j hj => ?_⟩
      · rcases rows_ne h1 h3 (by decide) with q | q
        · rw [q] at e; cases e
        · exact q (by rw [e, e0]; rfl)
      · rcases rows_ne h2 h3 (by decide) with q | q
        · rw [q] at e; cases e
        · exact q (by rw [e, e0]; rfl)
      · obtain ⟨u, a, b⟩ := hg j hj
        exact ⟨u, a, b.keep hba.size fun k hk _ => hba.block k (by omega)⟩
  · have := h1.lt k e
    exact ⟨this.1, by omega⟩
  · have := h2.lt k e
    refine ⟨this.1, by omega, fun e' => ?_⟩
    rcases rows_ne h1 h2 (by decide) with q | q
    · rw [q] at e'; cases e'
    · exact q (by rw [e', e])
def RCopyMade (B : Nat) (r : RefS) (w : World) (e : Ending) (w' : World) : Prop := ∃ u nv mv gv, e = .returned (.pointer (some ⟨u, 0, none⟩)) ∧ RefAt B (fun k => w.heap.size ≤ k) u nv mv gv r w' ∧ Below w.heap.size w w'
def EmptyR (W : World) (e : TypeId) (size : Nat) (x : Value) (w : World) : Prop := ∃ g, x = .slice (some ⟨g, 0, none⟩) 0 0 ∧ w.ownsRow W.heap.size e size (.slice (some ⟨g, 0, none⟩) 0 0) 0 []
section
variable {B u : Nat} {R : Nat → Prop} {nv mv gv : Value} {r : RefS} {w : World}
set_option maxHeartbeats 8000000
theorem rcopy_any (h : RefAt B R u nv mv gv r w) (hn : r.nums.length ≤ 2000000) (hml : r.msgs.length = r.nums.length) : Calls Try.prog 29 #[.pointer (some ⟨u, 0, none⟩)] w (RCopyMade B r w) := by
  have HF : Hid (∀ u nv mv gv e w', e = .returned (.pointer (some ⟨u, 0, none⟩)) → RefAt B (fun k => w.heap.size ≤ k) u nv mv gv r w' → Below w.heap.size w w' → RCopyMade B r w e w') := Lib.hid fun u nv mv gv e w' h1 h2 h3 => ⟨u, nv, mv, gv, h1, h2, h3⟩
  obtain ⟨na, nc, rfl⟩ := row_slc h.parts.nums
  obtain ⟨mz, rfl⟩ := h.parts.msgs.slc
  obtain ⟨cm, hm1, hm2⟩ := h.parts.msgs.row
  obtain ⟨ga, gc, rfl, -⟩ := ReadsD.slc (show ReadsD _ _ gv (.ls 1 _) from h.parts.grp.reads)
  have hgl : (r.gs.map fun g => [rowD g]).length = r.gs.length := by rw [List.length_map]
  obtain ⟨cg, g1, -, g2, g3, g4, g5, g6⟩ := GrpR.src h.parts.grp
  obtain ⟨s1, s2⟩ := own_src h.parts.nums
  obtain ⟨t1, t2⟩ := own_src hm1
  rw [hgl] at h g3
  have HN := Lib.hid h
  have HGS := Lib.hid (And.intro g1 (And.intro g2 (And.intro g3 (And.intro g4 (And.intro g5 g6)))))
  have HNS := Lib.hid (And.intro s1 s2)
  have HMS := Lib.hid (And.intro t1 (And.intro t2 (And.intro hm1.1 hm2)))
  have HBW := Lib.hid h.parts.bw
  have HLN := Lib.hid (And.intro hn hml)
  generalize hQ : RCopyMade B r w = Q at *
  clear hQ h hm1 hm2 g1 g2 g3 g4 g5 g6 s1 s2 t1 t2 hgl hn hml
  go_enter Try.func29, Try.ntmps29
  go_upto_region 1 with fail
  refine region_left [.is (.pointer (some ⟨u, 0, none⟩)), .is (.pointer (some ⟨u, 0, none⟩)), .is (.pointer (some ⟨u, 0, none⟩)), .is (.int .i64 r.limit), (.has (EmptyR w 3 1) fun x wa wb hb ⟨g, e, h⟩ => ⟨g, e, ownK_on h hb⟩), .is (.pointer (some ⟨u, 0, none⟩)), .is (.pointer (some ⟨u, 0, none⟩)), .is (.pointer (some ⟨u, 1, none⟩)), .is (.slice na r.nums.length nc), (.has (fun x wz => wz.ownsRow w.heap.size 3 1 x r.nums.length (r.nums.map vi)) fun x wa wb hb h => ownK_on h hb), (.has (EmptyR w 39 15) fun x wa wb hb ⟨g, e, h⟩ => ⟨g, e, ownK_on h hb⟩), .is (.pointer (some ⟨u, 0, none⟩)), .is (.pointer (some ⟨u, 0, none⟩)), .is (.pointer (some ⟨u, 2, none⟩)), .is (.slice mz.1 r.msgs.length mz.2), (.has (fun x wz => wz.ownsRow w.heap.size 39 15 x r.msgs.length (cm)) fun x wa wb hb h => ownK_on h hb), .is (.pointer (some ⟨u, 0, none⟩)), .is (.pointer (some ⟨u, 0, none⟩)), .is (.pointer (some ⟨u, 3, none⟩)), .is (.int .i64 r.last), .is (.pointer (some ⟨u, 0, none⟩)), .is (.pointer (some ⟨u, 0, none⟩)), .is (.pointer (some ⟨u, 4, none⟩)), .is (.bool r.split), (.has (EmptyR w 59 1) fun x wa wb hb ⟨g, e, h⟩ => ⟨g, e, ownK_on h hb⟩), .is (.pointer (some ⟨u, 0, none⟩)), .is (.pointer (some ⟨u, 0, none⟩)), .is (.pointer (some ⟨u, 5, none⟩)), .is (.slice ga r.gs.length gc), (.has (fun x wz => wz.ownsRow w.heap.size 59 1 x r.gs.length (cg)) fun x wa wb hb h => ownK_on h hb), .is (.pointer (some ⟨u, 0, none⟩)), .is (.pointer (some ⟨u, 0, none⟩)), .is (.pointer (some ⟨u, 6, none⟩)), .is (.agg #[.int .i64 r.d0, .int .i64 r.d1, .int .i64 r.d2, .int .i64 r.d3]), (.has (CopyR w r cm cg) fun x wa wb hb ⟨p1, p2, p3, e, a1, a2, a3⟩ => ⟨p1, p2, p3, e, ownK_on a1 hb, ownK_on a2 hb, ownK_on a3 hb⟩), (.has (fun x wz => ∃ u nv mv gv, x = .pointer (some ⟨u, 0, none⟩) ∧ RefAt B (fun k => w.heap.size ≤ k) u nv mv gv r wz) fun x wa wb hb ⟨p1, p2, p3, p4, e, a1⟩ => ⟨p1, p2, p3, p4, e, a1.on hb⟩), (.has (fun x wz => ∃ u nv mv gv, x = .pointer (some ⟨u, 0, none⟩) ∧ RefAt B (fun k => w.heap.size ≤ k) u nv mv gv r wz) fun x wa wb hb ⟨p1, p2, p3, p4, e, a1⟩ => ⟨p1, p2, p3, p4, e, a1.on hb⟩)] (by kernel_rfl) rfl (by kernel_rfl) (by kernel_rfl) (.cons ?c_0 (.cons ?c_1 (.cons ?c_2 (.cons ?c_3 (.cons ?c_4 (.cons ?c_5 (.cons ?c_6 (.cons ?c_7 (.cons ?c_8 (.cons ?c_9 (.cons ?c_10 (.cons ?c_11 (.cons ?c_12 (.cons ?c_13 (.cons ?c_14 (.cons ?c_15 (.cons ?c_16 (.cons ?c_17 (.cons ?c_18 (.cons ?c_19 (.cons ?c_20 (.cons ?c_21 (.cons ?c_22 (.cons ?c_23 (.cons ?c_24 (.cons ?c_25 (.cons ?c_26 (.cons ?c_27 (.cons ?c_28 (.cons ?c_29 (.cons ?c_30 (.cons ?c_31 (.cons ?c_32 (.cons ?c_33 (.cons ?c_34 (.cons ?c_35 (.cons ?c_36 .nil))))))))))))))))))))))))))))))))))))) ?c_fin
  case c_0 =>
    intro wq hbw st  K hK
    simp only [Act.put, List.setIfInBounds_toArray, List.set_cons_zero, List.set_cons_succ] at hK ⊢
    unfold opStep
    rw [if_pos (by rfl)]
    go_simp
    exact hK.out _ _ (Below.refl _ _) rfl _ rfl
  case c_1 =>
    intro wq hbw st  K hK
    simp only [Act.put, List.setIfInBounds_toArray, List.set_cons_zero, List.set_cons_succ] at hK ⊢
    unfold opStep
    rw [if_pos (by rfl)]
    go_simp
    exact hK.out _ _ (Below.refl _ _) rfl _ rfl
  case c_2 =>
    intro wq hbw st  K hK
    simp only [Act.put, List.setIfInBounds_toArray, List.set_cons_zero, List.set_cons_succ] at hK ⊢
    unfold opStep
    rw [if_pos (by rfl)]
    go_simp
    exact hK.out _ _ (Below.refl _ _) rfl _ rfl
  case c_3 =>
    intro wq hbw st  K hK
    simp only [Act.put, List.setIfInBounds_toArray, List.set_cons_zero, List.set_cons_succ] at hK ⊢
    unfold opStep
    rw [if_pos (by rfl)]
    have d0 : wq.cell? ⟨u, 0, none⟩ = some (.int .i64 r.limit) := (HN.out.on hbw).box.cell 0
    go_simp
    exact hK.out _ _ (Below.refl _ _) rfl _ rfl
  case c_4 =>
    intro wq hbw st  K hK
    simp only [Act.put, List.setIfInBounds_toArray, List.set_cons_zero, List.set_cons_succ] at hK ⊢
    unfold opStep
    rw [if_pos (by rfl)]
    go_simp
    exact hK.out _ _ ((Below.refl _ _).alloc (Nat.le_refl _) _) ⟨_, rfl, ownsRow_base (World.ownsRow_made wq #[] 0 (Nat.le_refl _) (Nat.zero_le _) (by simp)) hbw.size⟩ _ rfl
  case c_5 =>
    intro wq hbw st  K hK
    simp only [Act.put, List.setIfInBounds_toArray, List.set_cons_zero, List.set_cons_succ] at hK ⊢
    unfold opStep
    rw [if_pos (by rfl)]
    go_simp
    exact hK.out _ _ (Below.refl _ _) rfl _ rfl
  case c_6 =>
    intro wq hbw st  K hK
    simp only [Act.put, List.setIfInBounds_toArray, List.set_cons_zero, List.set_cons_succ] at hK ⊢
    unfold opStep
    rw [if_pos (by rfl)]
    go_simp
    exact hK.out _ _ (Below.refl _ _) rfl _ rfl
  case c_7 =>
    intro wq hbw st  K hK
    simp only [Act.put, List.setIfInBounds_toArray, List.set_cons_zero, List.set_cons_succ] at hK ⊢
    unfold opStep
    rw [if_pos (by rfl)]
    go_simp
    exact hK.out _ _ (Below.refl _ _) rfl _ rfl
  case c_8 =>
    intro wq hbw st  K hK
    simp only [Act.put, List.setIfInBounds_toArray, List.set_cons_zero, List.set_cons_succ] at hK ⊢
    unfold opStep
    rw [if_pos (by rfl)]
    have d1 : wq.cell? ⟨u, 1, none⟩ = some (.slice na r.nums.length nc) := (HN.out.on hbw).box.cell 1
    go_simp
    exact hK.out _ _ (Below.refl _ _) rfl _ rfl
  case c_9 =>
    intro wq hbw st x4 h4 K hK
    simp only [Act.put, List.setIfInBounds_toArray, List.set_cons_zero, List.set_cons_succ] at hK ⊢
    unfold opStep
    rw [if_pos (by rfl)]
    obtain ⟨g, rfl, hr⟩ := h4
    refine wp_append_zero (.tmp 7) (.tmp 11) 59 rfl w.heap.size elemInt g na r.nums.length nc (r.nums.map vi) rfl rfl HNS.out.1 (by simp) (HNS.out.2 wq hbw) (fun u hu => vis_one u hu) hr (by have := HLN.out; have := HGS.out; unfold maxLen; omega) (by have := HLN.out; have := HGS.out; omega) hbw.size ?_
    intro v5 w7 r5 b5
    exact hK.out _ _ b5 r5 _ rfl
  case c_10 =>
    intro wq hbw st  K hK
    simp only [Act.put, List.setIfInBounds_toArray, List.set_cons_zero, List.set_cons_succ] at hK ⊢
    unfold opStep
    rw [if_pos (by rfl)]
    go_simp
    exact hK.out _ _ ((Below.refl _ _).alloc (Nat.le_refl _) _) ⟨_, rfl, ownsRow_base (World.ownsRow_made wq #[] 0 (Nat.le_refl _) (Nat.zero_le _) (by simp)) hbw.size⟩ _ rfl
  case c_11 =>
    intro wq hbw st  K hK
    simp only [Act.put, List.setIfInBounds_toArray, List.set_cons_zero, List.set_cons_succ] at hK ⊢
    unfold opStep
    rw [if_pos (by rfl)]
    go_simp
    exact hK.out _ _ (Below.refl _ _) rfl _ rfl
  case c_12 =>
    intro wq hbw st  K hK
    simp only [Act.put, List.setIfInBounds_toArray, List.set_cons_zero, List.set_cons_succ] at hK ⊢
    unfold opStep
    rw [if_pos (by rfl)]
    go_simp
    exact hK.out _ _ (Below.refl _ _) rfl _ rfl
  case c_13 =>
    intro wq hbw st  K hK
    simp only [Act.put, List.setIfInBounds_toArray, List.set_cons_zero, List.set_cons_succ] at hK ⊢
    unfold opStep
    rw [if_pos (by rfl)]
    go_simp
    exact hK.out _ _ (Below.refl _ _) rfl _ rfl
  case c_14 =>
    intro wq hbw st  K hK
    simp only [Act.put, List.setIfInBounds_toArray, List.set_cons_zero, List.set_cons_succ] at hK ⊢
    unfold opStep
    rw [if_pos (by rfl)]
    have d2 : wq.cell? ⟨u, 2, none⟩ = some (.slice mz.1 r.msgs.length mz.2) := (HN.out.on hbw).box.cell 2
    go_simp
    exact hK.out _ _ (Below.refl _ _) rfl _ rfl
  case c_15 =>
    intro wq hbw st x9 h9 x10 h10 K hK
    simp only [Act.put, List.setIfInBounds_toArray, List.set_cons_zero, List.set_cons_succ] at hK ⊢
    unfold opStep
    rw [if_pos (by rfl)]
    obtain ⟨g, rfl, hr⟩ := h10
    refine wp_append_zero (.tmp 13) (.tmp 17) 50 rfl w.heap.size elemMsg g mz.1 r.msgs.length mz.2 (cm) rfl rfl HMS.out.1 (HMS.out.2.2.1) (HMS.out.2.1 wq hbw) (HMS.out.2.2.2.one) hr (by have := HLN.out; have := HGS.out; unfold maxLen; omega) (by have := HLN.out; have := HGS.out; omega) hbw.size ?_
    intro v5 w7 r5 b5
    exact hK.out _ _ b5 r5 _ rfl
  case c_16 =>
    intro wq hbw st  K hK
    simp only [Act.put, List.setIfInBounds_toArray, List.set_cons_zero, List.set_cons_succ] at hK ⊢
    unfold opStep
    rw [if_pos (by rfl)]
    go_simp
    exact hK.out _ _ (Below.refl _ _) rfl _ rfl
  case c_17 =>
    intro wq hbw st  K hK
    simp only [Act.put, List.setIfInBounds_toArray, List.set_cons_zero, List.set_cons_succ] at hK ⊢
    unfold opStep
    rw [if_pos (by rfl)]
    go_simp
    exact hK.out _ _ (Below.refl _ _) rfl _ rfl
  case c_18 =>
    intro wq hbw st  K hK
    simp only [Act.put, List.setIfInBounds_toArray, List.set_cons_zero, List.set_cons_succ] at hK ⊢
    unfold opStep
    rw [if_pos (by rfl)]
    go_simp
    exact hK.out _ _ (Below.refl _ _) rfl _ rfl
  case c_19 =>
    intro wq hbw st  K hK
    simp only [Act.put, List.setIfInBounds_toArray, List.set_cons_zero, List.set_cons_succ] at hK ⊢
    unfold opStep
    rw [if_pos (by rfl)]
    have d3 : wq.cell? ⟨u, 3, none⟩ = some (.int .i64 r.last) := (HN.out.on hbw).box.cell 3
    go_simp
    exact hK.out _ _ (Below.refl _ _) rfl _ rfl
  case c_20 =>
    intro wq hbw st  K hK
    simp only [Act.put, List.setIfInBounds_toArray, List.set_cons_zero, List.set_cons_succ] at hK ⊢
    unfold opStep
    rw [if_pos (by rfl)]
    go_simp
    exact hK.out _ _ (Below.refl _ _) rfl _ rfl
  case c_21 =>
    intro wq hbw st  K hK
    simp only [Act.put, List.setIfInBounds_toArray, List.set_cons_zero, List.set_cons_succ] at hK ⊢
    unfold opStep
    rw [if_pos (by rfl)]
    go_simp
    exact hK.out _ _ (Below.refl _ _) rfl _ rfl
  case c_22 =>
    intro wq hbw st  K hK
    simp only [Act.put, List.setIfInBounds_toArray, List.set_cons_zero, List.set_cons_succ] at hK ⊢
    unfold opStep
    rw [if_pos (by rfl)]
    go_simp
    exact hK.out _ _ (Below.refl _ _) rfl _ rfl
  case c_23 =>
    intro wq hbw st  K hK
    simp only [Act.put, List.setIfInBounds_toArray, List.set_cons_zero, List.set_cons_succ] at hK ⊢
    unfold opStep
    rw [if_pos (by rfl)]
    have d4 : wq.cell? ⟨u, 4, none⟩ = some (.bool r.split) := (HN.out.on hbw).box.cell 4
    go_simp
    exact hK.out _ _ (Below.refl _ _) rfl _ rfl
  case c_24 =>
    intro wq hbw st  K hK
    simp only [Act.put, List.setIfInBounds_toArray, List.set_cons_zero, List.set_cons_succ] at hK ⊢
    unfold opStep
    rw [if_pos (by rfl)]
    go_simp
    exact hK.out _ _ ((Below.refl _ _).alloc (Nat.le_refl _) _) ⟨_, rfl, ownsRow_base (World.ownsRow_made wq #[] 0 (Nat.le_refl _) (Nat.zero_le _) (by simp)) hbw.size⟩ _ rfl
  case c_25 =>
    intro wq hbw st  K hK
    simp only [Act.put, List.setIfInBounds_toArray, List.set_cons_zero, List.set_cons_succ] at hK ⊢
    unfold opStep
    rw [if_pos (by rfl)]
    go_simp
    exact hK.out _ _ (Below.refl _ _) rfl _ rfl
  case c_26 =>
    intro wq hbw st  K hK
    simp only [Act.put, List.setIfInBounds_toArray, List.set_cons_zero, List.set_cons_succ] at hK ⊢
    unfold opStep
    rw [if_pos (by rfl)]
    go_simp
    exact hK.out _ _ (Below.refl _ _) rfl _ rfl
  case c_27 =>
    intro wq hbw st  K hK
    simp only [Act.put, List.setIfInBounds_toArray, List.set_cons_zero, List.set_cons_succ] at hK ⊢
    unfold opStep
    rw [if_pos (by rfl)]
    go_simp
    exact hK.out _ _ (Below.refl _ _) rfl _ rfl
  case c_28 =>
    intro wq hbw st  K hK
    simp only [Act.put, List.setIfInBounds_toArray, List.set_cons_zero, List.set_cons_succ] at hK ⊢
    unfold opStep
    rw [if_pos (by rfl)]
    have d5 : wq.cell? ⟨u, 5, none⟩ = some (.slice ga r.gs.length gc) := (HN.out.on hbw).box.cell 5
    go_simp
    exact hK.out _ _ (Below.refl _ _) rfl _ rfl
  case c_29 =>
    intro wq hbw st x15 h15 x24 h24 K hK
    simp only [Act.put, List.setIfInBounds_toArray, List.set_cons_zero, List.set_cons_succ] at hK ⊢
    unfold opStep
    rw [if_pos (by rfl)]
    obtain ⟨g, rfl, hr⟩ := h24
    refine wp_append_zero (.tmp 27) (.tmp 31) 52 rfl w.heap.size elemInts g ga r.gs.length gc (cg) rfl rfl HGS.out.2.2.1 (by have := HGS.out.1; omega) (HGS.out.2.2.2.1 wq hbw) (HGS.out.2.2.2.2.1) hr (by have := HLN.out; have := HGS.out; unfold maxLen; omega) (by have := HLN.out; have := HGS.out; omega) hbw.size ?_
    intro v5 w7 r5 b5
    exact hK.out _ _ b5 r5 _ rfl
  case c_30 =>
    intro wq hbw st  K hK
    simp only [Act.put, List.setIfInBounds_toArray, List.set_cons_zero, List.set_cons_succ] at hK ⊢
    unfold opStep
    rw [if_pos (by rfl)]
    go_simp
    exact hK.out _ _ (Below.refl _ _) rfl _ rfl
  case c_31 =>
    intro wq hbw st  K hK
    simp only [Act.put, List.setIfInBounds_toArray, List.set_cons_zero, List.set_cons_succ] at hK ⊢
    unfold opStep
    rw [if_pos (by rfl)]
    go_simp
    exact hK.out _ _ (Below.refl _ _) rfl _ rfl
  case c_32 =>
    intro wq hbw st  K hK
    simp only [Act.put, List.setIfInBounds_toArray, List.set_cons_zero, List.set_cons_succ] at hK ⊢
    unfold opStep
    rw [if_pos (by rfl)]
    go_simp
    exact hK.out _ _ (Below.refl _ _) rfl _ rfl
  case c_33 =>
    intro wq hbw st  K hK
    simp only [Act.put, List.setIfInBounds_toArray, List.set_cons_zero, List.set_cons_succ] at hK ⊢
    unfold opStep
    rw [if_pos (by rfl)]
    have d6 : wq.cell? ⟨u, 6, none⟩ = some (.int .i64 r.d0) := (HN.out.on hbw).box.cell 6
    have d7 : wq.cell? ⟨u, 7, none⟩ = some (.int .i64 r.d1) := (HN.out.on hbw).box.cell 7
    have d8 : wq.cell? ⟨u, 8, none⟩ = some (.int .i64 r.d2) := (HN.out.on hbw).box.cell 8
    have d9 : wq.cell? ⟨u, 9, none⟩ = some (.int .i64 r.d3) := (HN.out.on hbw).box.cell 9
    go_simp
    exact hK.out _ _ (Below.refl _ _) rfl _ rfl
  case c_34 =>
    intro wq hbw st x9 h9 x15 h15 x29 h29 K hK
    simp only [Act.put, List.setIfInBounds_toArray, List.set_cons_zero, List.set_cons_succ] at hK ⊢
    unfold opStep
    rw [if_pos (by rfl)]
    obtain ⟨a9, c9, rfl⟩ := row_slc h9
    obtain ⟨a15, c15, rfl⟩ := row_slc h15
    obtain ⟨a29, c29, rfl⟩ := row_slc h29
    go_simp
    exact hK.out _ _ (Below.refl _ _) ⟨_, _, _, rfl, h9, h15, h29⟩ _ rfl
  case c_35 =>
    intro wq hbw st x34 h34 K hK
    simp only [Act.put, List.setIfInBounds_toArray, List.set_cons_zero, List.set_cons_succ] at hK ⊢
    unfold opStep
    rw [if_pos (by rfl)]
    obtain ⟨p1, p2, p3, rfl, a1, a2, a3⟩ := h34
    go_simp
    exact hK.out _ _ ((Below.refl _ _).alloc (Nat.le_refl _) _) ⟨_, _, _, _, rfl, RefAt.copied hbw HBW.out a1 a2 a3 HMS.out.2.2.2 HGS.out.2.1 HGS.out.2.2.2.2.2⟩ _ rfl
  case c_36 =>
    intro wq hbw st x4 h4 x9 h9 x10 h10 x15 h15 x24 h24 x29 h29 x34 h34 x35 h35 K hK
    simp only [Act.put, List.setIfInBounds_toArray, List.set_cons_zero, List.set_cons_succ] at hK ⊢
    unfold opStep
    rw [if_pos (by rfl)]
    go_simp
    exact hK.out _ _ (Below.refl _ _) h35 _ rfl
  case c_fin =>
    intro wq hbw
    intro x4 h4 x9 h9 x10 h10 x15 h15 x24 h24 x29 h29 x34 h34 x35 h35 x36 h36
    try simp only [FinAll]
    simp only [Act.put, List.setIfInBounds_toArray, List.set_cons_zero, List.set_cons_succ]
    obtain ⟨p1, p2, p3, p4, rfl, a1⟩ := h36
    have HR := Lib.hid a1
    have HBQ := Lib.hid hbw
    clear a1 hbw h4 h9 h10 h15 h24 h29 h34 h35
    go_wp2
    exact HF.out _ _ _ _ _ _ rfl HR.out HBQ.out
end
end Go.Proofs.Ytmcdmcnbnnfhnaa
