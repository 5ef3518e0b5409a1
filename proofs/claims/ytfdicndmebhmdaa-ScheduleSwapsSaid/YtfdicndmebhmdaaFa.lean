/-
  Chapter 29: the state of each: the search, the order of events placed, what the visitor keeps.
-/
import Derived.Test.YtfdicndmebhmdaaEj
namespace Go.Proofs.Ytfdicndmebhmdaa
open Go.RowKit

/-- One value appended to a row of ints of the call's own: the row's block is the one it was, or the next new one. -/
theorem run_append_blk {base : Nat} {w : World} {ty : TypeId} {v : Value} {l : List Nat} {g k : Nat} (hown : w.ownsRow base 3 1 v l.length (l.map nv)) (hB : Blk w g 3 #[nv k]) (hlen : l.length ≤ 100000) (hbase : base ≤ w.heap.size) :
    ∃ v' w', (Builtin.append_ #[25, 25] ty #[v, .slice (some ⟨g, 0, none⟩) 1 1]).run Try.prog w = .ok v' w' ∧ w'.ownsRow base 3 1 v' (l ++ [k]).length ((l ++ [k]).map nv) ∧ w.grownBy w' v.ownBlock ∧ (v'.ownBlock = v.ownBlock ∨ v'.ownBlock = some w.heap.size) := by
  obtain ⟨i0, hinf, hz0, hz1, hz2⟩ := info_parts Try.infoInt1
  have hn1 : ∀ j u, [nv k][j]? = some u → w.cell? ((⟨g, 0, none⟩ : Addr).add j) = some u := by
    intro j u hu
    have h2 : (#[nv k] : Array Value)[j]? = some u := by simpa using hu
    rw [← h2, ← hB.cell j]
    by_cases h0 : j = 0 <;> simp [Addr.add, h0]
  have h1 : ∀ u ∈ [nv k], u.oneCell' = true := by intro u hu; rw [List.mem_singleton.1 hu]; rfl
  obtain ⟨v', w', hr, h2, h3, _⟩ := run_append_own (P := Try.prog) w base 25 ty 3 i0 (.int .i64 0) 1 8 Try.underlying25 hinf hz0 hz1 hz2 rfl (by decide) v l.length (l.map nv) hown ⟨g, 0, none⟩ 1 1 [nv k] rfl hn1 h1 (by unfold maxLen; omega) (by omega) hbase
  refine ⟨v', w', hr, by rw [List.length_append, List.map_append]; exact h2, h3, ?_⟩
  have hown2 := hown
  rcases hown.2 with ⟨rfl, h0⟩ | ⟨g0, cap, cur, rfl, hbg, hg, hnc, hcm, hcs, htake⟩
  · have hr2 := run_append_nil (P := Try.prog) w 25 ty 3 i0 (.int .i64 0) Try.underlying25 hinf hz0 ⟨g, 0, none⟩ 1 1 [nv k] (by rw [hz1]; rfl) hn1 (by omega) (by omega) (by omega)
    rw [hr2] at hr
    injection hr with hr _
    right; rw [← hr]; rfl
  · by_cases hroom : l.length + 1 ≤ cap
    · have hr2 := run_append_room (P := Try.prog) w 25 ty 3 i0 Try.underlying25 hinf g0 l.length cap cur hg ⟨g, 0, none⟩ 1 1 [nv k] (by rw [hz1]; rfl) hn1 h1 hroom (by rw [hz1, hcs]; simp; omega)
      rw [hr2] at hr
      injection hr with hr _
      left; rw [← hr]; rfl
    · have hr2 := run_append_grow (P := Try.prog) w 25 ty 3 i0 (.int .i64 0) Try.underlying25 hinf hz0 ⟨g0, 0, none⟩ l.length cap (l.map nv) (by rw [hz1]; simp) (hown2.cells (g := g0) rfl) ⟨g, 0, none⟩ 1 1 [nv k] (by rw [hz1]; rfl) hn1 (by omega) (by unfold maxLen at hcm; omega) (growslice_fits (by omega) (by rw [hz2]; omega))
      rw [hr2] at hr
      injection hr with hr _
      right; rw [← hr]; rfl
theorem append_nvb {ops : Array Oper} {rest : List Oper} {o : Oper} {a : Act} {w : World} {Q : Exit → Act → World → Prop} (hgd : o.guard = none) (s x : Operand)
    (ho : o.op = .call { callee := .builtin .append, args := #[s, x], argTypes := #[25, 25] })
    (base : Nat) (v : Value) (l : List Nat) (g k : Nat) (hs : a.eval s = v) (hown : w.ownsRow base 3 1 v l.length (l.map nv)) (hx : a.eval x = .slice (some ⟨g, 0, none⟩) 1 1) (hB : Blk w g 3 #[nv k]) (hlen : l.length ≤ 100000) (hbase : base ≤ w.heap.size)
    (h : ∀ v' w', w'.ownsRow base 3 1 v' (l ++ [k]).length ((l ++ [k]).map nv) → w.grownBy w' v.ownBlock → (v'.ownBlock = v.ownBlock ∨ v'.ownBlock = some w.heap.size) → wpList Try.prog ops Q rest (a.put o.dst v') w') : wpList Try.prog ops Q (o :: rest) a w := by
  obtain ⟨v', w', hr, h1, h2, h3⟩ := run_append_blk (ty := o.type) hown hB hlen hbase
  refine wpList_plain hgd fun _ hK => ?_
  unfold Oper.wp execOp
  simp only [ho, resolve, invoke, builtin, Sem.run_bind, Sem.run_pure, Result.andThen_ok, List.map_toArray, List.map_cons, List.map_nil, hs, hx, hr]
  exact hK _ _ (h v' w' h1 h2 h3)
theorem row_cut {w : World} {base : Nat} {a : Option Addr} {c : Nat} {l : List Nat} {k : Nat} (h : w.ownsRow base 3 1 (.slice a (l.length + 1) c) (l.length + 1) ((l ++ [k]).map nv)) : w.ownsRow base 3 1 (.slice a l.length c) l.length (l.map nv) := by
  refine ⟨by simp, ?_⟩
  rcases h.2 with ⟨_, e⟩ | ⟨g, cap, cur, hv, hb, hg, hn, hm, hs, ht⟩
  · omega
  · injection hv with e1 e2 e3
    subst e1 e3
    refine .inr ⟨g, c, cur, rfl, hb, hg, by omega, hm, hs, ?_⟩
    rw [List.map_append] at ht
    have := congrArg (List.take l.length) ht
    rw [List.take_take, Nat.mul_one, Nat.min_eq_left (by omega)] at this
    rw [Nat.mul_one, this]
    have e : l.length = (l.map nv).length := by simp
    conv => lhs; rw [e]
    exact List.take_left

def usO (o : List Nat) : Nat → Bool := fun i => decide (i ∈ o)
theorem usO_nil : usO [] = noU := by funext i; unfold usO noU; simp
theorem usO_snoc (o : List Nat) (i : Nat) : setU (usO o) i true = usO (o ++ [i]) := by
  funext j
  unfold setU usO
  by_cases e : j = i
  · rw [if_pos e]; simp [e]
  · rw [if_neg e]; simp [e]
theorem usO_back {o : List Nat} {i : Nat} (h : i ∉ o) : setU (usO (o ++ [i])) i false = usO o := by
  rw [← usO_snoc]
  exact setU_back (by unfold usO; exact decide_eq_false h)

/-- What each works with: the trace, the blocks of the search and of its own variables, the visitor; Wc: the first block of each; N1: the first one behind its variables. -/
structure Ctx where
  W0 : World
  tv : Value
  t : List Ev
  gs : Nat
  gw : Nat
  gn : Nat
  gu : Nat
  M0 : Nat
  N0 : Nat
  Wc : Nat
  N1 : Nat
  pt : Nat
  pv : Nat
  ps : Nat
  po : Nat
  pe : Nat
  vis : Value
structure Ctx.Ok (C : Ctx) : Prop where
  h0 : C.W0.heap.size ≤ C.Wc
  h1 : C.Wc ≤ C.pt ∧ C.Wc ≤ C.pv
  h2 : C.pt < C.M0 ∧ C.pv < C.M0
  h3 : C.N0 ≤ C.ps ∧ C.N0 ≤ C.po ∧ C.N0 ≤ C.pe
  h4 : C.ps < C.N1 ∧ C.po < C.N1 ∧ C.pe < C.N1
  h5 : C.M0 ≤ C.N0 ∧ C.N0 ≤ C.N1
  rd : ReadsE C.W0 C.tv C.t
  sm : C.t.length ≤ 1000
def extV (C : Ctx) : Value := .func (.func 58) #[] #[.pointer (some ⟨C.po, 0, none⟩), .pointer (some ⟨C.pt, 0, none⟩), .pointer (some ⟨C.pv, 0, none⟩), .pointer (some ⟨C.ps, 0, none⟩), .pointer (some ⟨C.pe, 0, none⟩)]
structure EB (C : Ctx) (w : World) (us : Nat → Bool) : Prop where
  bt : Blk w C.pt 22 #[C.tv]
  bv : Blk w C.pv 56 #[C.vis]
  bs : Blk w C.ps 47 #[.pointer (some ⟨C.gs, 0, none⟩)]
  be : Blk w C.pe 23 #[extV C]
  sr : Srch C.M0 C.N0 w C.gs C.gw C.gn C.gu C.tv C.t us
  bel : Below C.W0.heap.size C.W0 w
  sz : C.N1 ≤ w.heap.size
structure ES (C : Ctx) (w : World) (us : Nat → Bool) (o : List Nat) (ov : Value) (F : Nat → Prop) : Prop where
  eb : EB C w us
  bo : Blk w C.po 25 #[ov]
  row : w.ownsRow C.N1 3 1 ov o.length (o.map nv)
  fr : ∀ b, F b → C.W0.heap.size ≤ b ∧ (b < C.Wc ∨ C.N1 ≤ b) ∧ some b ≠ ov.ownBlock ∧ b < w.heap.size
/-- What each may change: its own variables, the row of the order, what is the visitor's. -/
def ChE (C : Ctx) (ov : Value) (F : Nat → Prop) : Nat → Prop := fun b => b = C.gw ∨ b = C.gu ∨ b = C.po ∨ some b = ov.ownBlock ∨ F b
section
variable {C : Ctx} {w w' : World} {us : Nat → Bool} {o : List Nat} {ov : Value} {F F' : Nat → Prop} {S : Nat → Prop}
theorem EB.kept (hC : C.Ok) (h : EB C w us) (hk : Kept S w w') (hS : ∀ b, S b → C.W0.heap.size ≤ b ∧ (b < C.Wc ∨ C.N1 ≤ b ∨ b = C.po)) (hpo : Blk w C.po 25 #[ov]) : EB C w' us := by
  have c1 := hC.h1
  have c2 := hC.h2
  have c3 := hC.h3
  have c4 := hC.h4
  have c5 := hC.h5
  have c0 := hC.h0
  have nf : ∀ b, C.Wc ≤ b → b < C.N1 → b ≠ C.po → ¬ S b := fun b h1 h2 h3 hf => by
    have := (hS b hf).2
    omega
  have hne : ∀ {g : Nat} {T : TypeId} {cs : Array Value}, Blk w g T cs → T ≠ 25 → g ≠ C.po := fun hB hT => blk_ne hB hpo hT
  exact ⟨hk.blk h.bt (nf _ (by omega) (by omega) (hne h.bt (by decide))), hk.blk h.bv (nf _ (by omega) (by omega) (hne h.bv (by decide))), hk.blk h.bs (nf _ (by omega) (by omega) (hne h.bs (by decide))), hk.blk h.be (nf _ (by omega) (by omega) (hne h.be (by decide))),
    h.sr.kept hk fun b h1 h2 => nf b (by omega) (by omega) (by omega), h.bel.trans (hk.below h.bel.size fun k hk' hf => by have := (hS k hf).1; omega), Nat.le_trans h.sz hk.size⟩
theorem EB.on (hC : C.Ok) (h : EB C w us) (hb : Below w.heap.size w w') (hpo : Blk w C.po 25 #[ov]) : EB C w' us := h.kept hC (Kept.of (S := fun _ => False) hb) (fun _ q => q.elim) hpo
theorem ES.on (hC : C.Ok) (h : ES C w us o ov F) (hb : Below w.heap.size w w') : ES C w' us o ov F :=
  ⟨h.eb.on hC hb h.bo, h.bo.on hb, below_row h.row hb, fun b hb' => by
    obtain ⟨a1, a2, a3, a4⟩ := h.fr b hb'
    exact ⟨a1, a2, a3, Nat.lt_of_lt_of_le a4 hb.size⟩⟩
/-- The visitor has been at work. -/
theorem ES.visited (hC : C.Ok) (h : ES C w us o ov F) (hk : Kept F w w') (hF : ∀ b, F' b → (F b ∨ w.heap.size ≤ b) ∧ b < w'.heap.size) : ES C w' us o ov F' := by
  have c3 := hC.h3
  have c4 := hC.h4
  have c1 := hC.h1
  have c2 := hC.h2
  have c5 := hC.h5
  have c0 := hC.h0
  refine ⟨h.eb.kept hC hk (fun b hb => by have := h.fr b hb; omega) h.bo, hk.blk h.bo fun hf => by have := (h.fr _ hf).2.1; omega, hk.row h.row fun b hb hf => (h.fr b hf).2.2.1 hb.symm, fun b hb => ?_⟩
  obtain ⟨h1, h2⟩ := hF b hb
  have hw0 := h.eb.bel.size
  have hsz := h.eb.sz
  rcases h1 with h1 | h1
  · obtain ⟨a1, a2, a3, a4⟩ := h.fr b h1
    exact ⟨a1, a2, a3, h2⟩
  · refine ⟨by omega, .inr (by omega), fun e => ?_, h2⟩
    have := (h.row.lt b e.symm).2
    omega
/-- An event placed, or taken back. -/
theorem ES.placed (hC : C.Ok) (h : ES C w us o ov F) {us' : Nat → Bool} (hs : Srch C.M0 C.N0 w' C.gs C.gw C.gn C.gu C.tv C.t us') (hk : Kept (PlS C.gw C.gu) w w') : ES C w' us' o ov F := by
  have c1 := hC.h1
  have c2 := hC.h2
  have c3 := hC.h3
  have c4 := hC.h4
  have c5 := hC.h5
  have c0 := hC.h0
  have hl := h.eb.sr.lt
  have hg := h.eb.sr.ge
  have np : ∀ b, ¬ (C.M0 ≤ b ∧ b < C.N0) → ¬ PlS C.gw C.gu b := fun b h1 => by rintro (e | e) <;> omega
  exact ⟨⟨hk.blk h.eb.bt (np _ (by omega)), hk.blk h.eb.bv (np _ (by omega)), hk.blk h.eb.bs (np _ (by omega)), hk.blk h.eb.be (np _ (by omega)), hs, h.eb.bel.trans (hk.below h.eb.bel.size fun b hb => np _ (by omega)), Nat.le_trans h.eb.sz hk.size⟩,
    hk.blk h.bo (np _ (by omega)), hk.row h.row fun b hb => np _ (by have := (h.row.lt b hb).1; omega), fun b hb => by
      obtain ⟨a1, a2, a3, a4⟩ := h.fr b hb
      exact ⟨a1, a2, a3, Nat.lt_of_lt_of_le a4 hk.size⟩⟩
/-- The order's variable is written: another row. -/
theorem ES.store (hC : C.Ok) {w1 : World} (he : EB C w1 us) (hpo : Blk w1 C.po 25 #[ov]) {o2 : List Nat} {ov2 : Value} (hr : w1.ownsRow C.N1 3 1 ov2 o2.length (o2.map nv))
    (hF : ∀ b, F b → C.W0.heap.size ≤ b ∧ (b < C.Wc ∨ C.N1 ≤ b) ∧ some b ≠ ov2.ownBlock ∧ b < w1.heap.size) : ES C (w1.setCell ⟨C.po, 0, none⟩ ov2) us o2 ov2 F := by
  have c0 := hC.h0
  have c1 := hC.h1
  have c2 := hC.h2
  have c3 := hC.h3
  have c4 := hC.h4
  have c5 := hC.h5
  have hk : Kept (fun b => b = C.po) w1 (w1.setCell ⟨C.po, 0, none⟩ ov2) := Kept.set _ rfl
  refine ⟨he.kept hC hk (fun b hb => ⟨by omega, .inr (.inr hb)⟩) hpo, by simpa using hpo.set_ 0 ov2, hk.row hr fun b hb => by have := (hr.lt b hb).1; omega, fun b hb' => ?_⟩
  have := hF b hb'
  exact ⟨this.1, this.2.1, this.2.2.1, by simpa [World.setCell] using this.2.2.2⟩
end
/-- What a visitor does with an order: seen: the orders that it has been shown; F: its blocks. -/
structure Visitor (C : Ctx) (lim : Nat) (V : List (List Nat) → (Nat → Prop) → World → Prop) : Prop where
  keep : ∀ seen F w w' S, V seen F w → Kept S w w' → (∀ b, S b → C.Wc ≤ b ∧ ¬ F b) → V seen F w'
/-- What extend gives. -/
def ExtPost (C : Ctx) (lim : Nat) (V : List (List Nat) → (Nat → Prop) → World → Prop) (o : List Nat) (ov : Value) (F : Nat → Prop) (seen : List (List Nat)) (w : World) (e : Ending) (w' : World) : Prop :=
  e = .returned (.bool (decide (seen.length + (linsGo C.t (C.t.length - o.length) (usO o)).length < lim))) ∧ ∃ ov' F', ES C w' (usO o) o ov' F' ∧ V (seen ++ ((linsGo C.t (C.t.length - o.length) (usO o)).map (o ++ ·)).take (lim - seen.length)) F' w' ∧
    Kept (ChE C ov F) w w' ∧ (∀ b, F' b → F b ∨ w.heap.size ≤ b) ∧ (∀ b, ov'.ownBlock = some b → ov.ownBlock = some b ∨ w.heap.size ≤ b)
/-- The orders of the first q choices. -/
def linsQ (t : List Ev) (n : Nat) (us : Nat → Bool) (q : Nat) : List (List Nat) := ((rdyS t us).take q).flatMap fun i => (linsGo t n (setU us i true)).map (i :: ·)
theorem linsQ_zero (t : List Ev) (n : Nat) (us : Nat → Bool) : linsQ t n us 0 = [] := by unfold linsQ; simp
theorem linsQ_all (t : List Ev) (n : Nat) (us : Nat → Bool) {q : Nat} (h : (rdyS t us).length ≤ q) : linsQ t n us q = linsGo t (n + 1) us := by
  unfold linsQ; rw [List.take_of_length_le h]; rfl
theorem linsQ_succ {t : List Ev} {n : Nat} {us : Nat → Bool} {q : Nat} (h : q < (rdyS t us).length) : linsQ t n us (q + 1) = linsQ t n us q ++ (linsGo t n (setU us (rdyS t us)[q] true)).map ((rdyS t us)[q] :: ·) := by
  unfold linsQ
  rw [List.take_succ_eq_append_getElem h, List.flatMap_append]; simp
theorem linsQ_le (t : List Ev) (n : Nat) (us : Nat → Bool) (q : Nat) : (linsQ t n us q).length ≤ (linsGo t (n + 1) us).length := by
  rw [← linsQ_all t n us (Nat.le_refl _)]
  by_cases h : q ≤ (rdyS t us).length
  · obtain ⟨d, hd⟩ : ∃ d, (rdyS t us).length = q + d := ⟨(rdyS t us).length - q, by omega⟩
    have : (rdyS t us).take (rdyS t us).length = (rdyS t us).take q ++ ((rdyS t us).drop q).take d := by
      rw [hd, List.take_add]
    unfold linsQ
    rw [this, List.flatMap_append, List.length_append]; omega
  · unfold linsQ
    rw [List.take_of_length_le (by omega), List.take_of_length_le (Nat.le_refl _)]; exact Nat.le_refl _
end Go.Proofs.Ytfdicndmebhmdaa
