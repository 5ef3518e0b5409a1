/-
  Chapter 28: maps of the call's own from ints to any values, read key by key.
-/
import Derived.Test.YtmcdmcnbnnfhnaaDa
import Derived.Maps.OwnSet
namespace Go.Proofs.Ytmcdmcnbnnfhnaa
open Go.RowKit Go.Maps
set_option maxRecDepth 100000

def I64 (x : Int) : Prop := -9223372036854775808 ≤ x ∧ x ≤ 9223372036854775807
theorem wfI64 {x : Int} (h : I64 x) : (Lit.int .i64 x).wf = true := by
  unfold I64 at h
  simp [Lit.wf, IntKind.min, IntKind.max, IntKind.bits, IntKind.signed]; omega
theorem keyI {x : Int} (h : I64 x) : keyOf Try.prog 3 (.int .i64 x) = some (.int .i64 x) := by
  have hu := Try.underlying3
  simp [keyOf, mapKey, hu, wfI64 h]
theorem kdI : Keyed Try.prog 3 := int_keyed Try.underlying3
theorem litI (x : Int) : WideAt.IsKeyLit (.int .i64 x) := trivial
def RV (v : Value) : Option (DataW Value × List MemPlace) := some (.held v, [])
/-- Block b is a map from ints with n entries, which are those of M. -/
def MapV (w : World) (b n : Nat) (M : Int → Option Value) : Prop :=
  ∃ D, w.ownsMap Try.prog 3 RV b n D ∧ Maps.size D = n ∧ ∀ x, I64 x → Maps.has D (.int .i64 x) = (M x).isSome ∧ ∀ v, M x = some v → ∀ z, D.atKey (.int .i64 x) z = .held v
def updV (M : Int → Option Value) (x : Int) (v : Option Value) : Int → Option Value := fun y => if y = x then v else M y
section
variable {w w' : World} {b n : Nat} {M : Int → Option Value} {x : Int}
theorem MapV.lt (h : MapV w b n M) : b < w.heap.size := by obtain ⟨D, h, _⟩ := h; exact h.lt
theorem MapV.at_ (h : MapV w b n M) (hb : w'.heap[b]? = w.heap[b]?) : MapV w' b n M := by
  obtain ⟨D, ⟨es, clock, h1, h2⟩, h3⟩ := h
  exact ⟨D, ⟨es, clock, hb.trans h1, h2⟩, h3⟩
theorem MapV.on (h : MapV w b n M) (hb : Below w.heap.size w w') : MapV w' b n M := h.at_ (hb.block b h.lt)
theorem MapV.kept {S : Nat → Prop} (h : MapV w b n M) (hk : Kept S w w') (hs : ¬ S b) : MapV w' b n M := h.at_ (hk.block b h.lt hs)
theorem MapV.congr {M' : Int → Option Value} (h : MapV w b n M) (he : ∀ x, I64 x → M x = M' x) : MapV w b n M' := by
  obtain ⟨D, h1, h2, h3⟩ := h
  exact ⟨D, h1, h2, fun x hx => by rw [← he x hx]; exact h3 x hx⟩
theorem MapV.made (w : World) : MapV (w.alloc (.map #[] 0)) w.heap.size 0 (fun _ => none) :=
  ⟨.map [], World.ownsMap_made w _ _ _, rfl, fun x _ => ⟨rfl, fun v h => by cases h⟩⟩
/-- m[x], asked with ok and without. -/
theorem MapV.get (h : MapV w b n M) {t e : TypeId} (ht : Try.prog.underlying t = some (.map 3 e)) {z : Value} (hz : ∀ w, (zeroValue e).run Try.prog w = .ok z w) (hx : I64 x) (c : Bool) :
    (Instr.lookup t (.map (some b)) (.int .i64 x) c).run Try.prog w = .ok (if c then .tuple #[(M x).getD z, .bool (M x).isSome] else (M x).getD z) w := by
  obtain ⟨D, ⟨es, clock, hb, F, _, rfl⟩, _, hM⟩ := h
  obtain ⟨h1, h2⟩ := hM x hx
  rcases Maps.fit_look c kdI ht (hz w) hb F (keyI hx) with ⟨hrun, _, hat⟩ | ⟨e0, y, _, _, hrun, hRv, hat, _⟩
  · rw [Maps.has_false_of_atKey hat] at h1
    cases hm : M x with
    | none => rw [hrun]; rfl
    | some v => rw [hm] at h1; cases h1
  · rw [Maps.has_true_of_atKey hat] at h1
    cases hm : M x with
    | none => rw [hm] at h1; cases h1
    | some v =>
      have e1 := h2 v hm (.lit (.bool true))
      rw [hat] at e1
      unfold RV at hRv
      injection hRv with hRv
      subst hRv
      injection e1 with e1
      subst e1
      rw [hrun]; rfl
/-- len(m). -/
theorem MapV.len (h : MapV w b n M) {t e : TypeId} (ht : Try.prog.underlying t = some (.map 3 e)) (ty : TypeId) : (Builtin.len_ #[t] ty #[.map (some b)]).run Try.prog w = .ok (.int .i64 n) w := by
  obtain ⟨D, h1, h2, _⟩ := h
  rw [← h2]
  exact h1.len ht ty
/-- m[x] = v. -/
theorem MapV.put (h : MapV w b n M) {t e : TypeId} (ht : Try.prog.underlying t = some (.map 3 e)) (hx : I64 x) (hn : n < maxLen) (v : Value) :
    ∃ w', (Instr.mapUpdate t (.map (some b)) (.int .i64 x) v).run Try.prog w = .ok () w' ∧ MapV w' b (if (M x).isSome then n else n + 1) (updV M x (some v)) ∧ w.grownBy w' (some b) := by
  obtain ⟨D, h1, h2, hM⟩ := h
  obtain ⟨w', hrun, hown, hg⟩ := h1.update kdI ht hn (keyI hx) (show RV v = some (.held v, []) from rfl)
  have hT := h1.tidy kdI
  have hsz : Maps.size (D.put (.int .i64 x) (.held v)) = if (M x).isSome then n else n + 1 := by rw [Maps.size_put hT, (hM x hx).1, h2]
  refine ⟨w', hrun, ⟨_, ?_, hsz, fun y hy => ?_⟩, hg⟩
  · obtain ⟨es, clock, a1, a2, a3, a4⟩ := hown
    refine ⟨es, clock, a1, a2, ?_, a4⟩
    have e1 : Maps.size (D.put (.int .i64 x) (.held v)) = es.size := by rw [a4]; simp [Maps.size, length_sorted]
    omega
  · unfold updV
    by_cases e : y = x
    · subst e
      rw [if_pos rfl]
      exact ⟨Maps.has_put_same h1.isMap (litI _) _, fun u hu z => by injection hu with hu; subst hu; exact Maps.atKey_put_same h1.isMap (litI _) _ _⟩
    · rw [if_neg e]
      have hne : (Lit.int .i64 y) ≠ .int .i64 x := fun h => e (by injection h)
      exact ⟨(Maps.has_put_other hne _).trans (hM y hy).1, fun u hu z => (Maps.atKey_put_other hne _ _).trans ((hM y hy).2 u hu z)⟩
/-- delete(m, x), an entry that is there. -/
theorem MapV.del (h : MapV w b n M) {t e : TypeId} (ht : Try.prog.underlying t = some (.map 3 e)) (hx : I64 x) (ty : TypeId) :
    ∃ w', (Builtin.delete_ #[t, 3] ty #[.map (some b), .int .i64 x]).run Try.prog w = .ok (.tuple #[]) w' ∧ MapV w' b (if (M x).isSome then n - 1 else n) (updV M x none) ∧ w.grownBy w' (some b) := by
  obtain ⟨D, h1, h2, hM⟩ := h
  obtain ⟨w', hrun, hown, hg⟩ := h1.drop kdI ht (keyI hx) ty
  have hT := h1.tidy kdI
  have hsz : Maps.size (D.del (.int .i64 x)) = if (M x).isSome then n - 1 else n := by
    have := Maps.size_del (k := .int .i64 x) hT
    rw [(hM x hx).1, h2] at this
    cases hm : (M x).isSome <;> simp [hm] at this ⊢ <;> omega
  refine ⟨w', hrun, ⟨_, ?_, hsz, fun y hy => ?_⟩, hg.grown⟩
  · obtain ⟨es, clock, a1, a2, a3, a4⟩ := hown
    refine ⟨es, clock, a1, a2, ?_, a4⟩
    have e1 : Maps.size (D.del (.int .i64 x)) = es.size := by rw [a4]; simp [Maps.size, length_sorted]
    omega
  · unfold updV
    by_cases e : y = x
    · subst e
      rw [if_pos rfl]
      exact ⟨Maps.has_del_same, fun u hu => by cases hu⟩
    · rw [if_neg e]
      have hne : (Lit.int .i64 y) ≠ .int .i64 x := fun h => e (by injection h)
      exact ⟨(Maps.has_del_other hne).trans (hM y hy).1, fun u hu z => (Maps.atKey_del_other hne _).trans ((hM y hy).2 u hu z)⟩
end
theorem kept_grown {w w' : World} {b : Nat} (h : w.grownBy w' (some b)) : Kept (fun k => k = b) w w' := ⟨h.os, h.tape, h.output, h.size, fun i hi hn => h.block i hi fun e => hn (by injection e)⟩
/-- At the operation: make, m[x] with ok, len, m[x] = v, delete. -/
theorem wpList_map_made {P : Program} {w : World} {ops : Array Oper} {rest : List Oper} {o : Oper} {a : Act} {Q : Exit → Act → World → Prop} (hg : o.guard = none) (t : TypeId) (hop : o.op = Op.makeMap t none)
    (hK : wpList P ops Q rest (a.put o.dst (.map (some w.heap.size))) (w.alloc (.map #[] 0))) : wpList P ops Q (o :: rest) a w := by
  refine wpList_plain hg fun K' hK' => ?_
  have hrun := run_makeMap (P := P) t w
  unfold Oper.wp
  simp only [execOp, hop, Sem.run_bind, Sem.run_pure]
  exact hK' _ _ hK
section
variable {w : World} {ops : Array Oper} {rest : List Oper} {o : Oper} {a : Act} {Q : Exit → Act → World → Prop} {b n : Nat} {M : Int → Option Value} {x : Int}
theorem wpList_mapv_ok (hg : o.guard = none) (t : TypeId) (m i : Operand) (hop : o.op = Op.lookup t m i true) {e : TypeId} (ht : Try.prog.underlying t = some (.map 3 e)) {z : Value} (hz : ∀ w, (zeroValue e).run Try.prog w = .ok z w)
    (hm : a.eval m = .map (some b)) (hM : MapV w b n M) (hi : a.eval i = .int .i64 x) (hx : I64 x) {v : Value} {c : Bool} (hv : (M x).getD z = v) (hc : (M x).isSome = c)
    (hK : wpList Try.prog ops Q rest (a.put o.dst (.tuple #[v, .bool c])) w) : wpList Try.prog ops Q (o :: rest) a w := by
  subst hv hc
  refine wpList_plain hg fun K' hK' => ?_
  have hrun := hM.get ht hz hx true
  simp only [if_true] at hrun
  unfold Oper.wp
  simp only [execOp, hop, hm, hi, hrun, Sem.run_bind, Result.andThen_ok, Sem.run_pure]
  exact hK' _ _ hK
theorem wpList_mapv_put (hg : o.guard = none) (t : TypeId) (m i v : Operand) (hop : o.op = Op.mapUpdate t m i v) {e : TypeId} (ht : Try.prog.underlying t = some (.map 3 e))
    (hm : a.eval m = .map (some b)) (hM : MapV w b n M) (hn : n < maxLen) (hi : a.eval i = .int .i64 x) (hx : I64 x) {u : Value} (hv : a.eval v = u)
    (hK : ∀ w', MapV w' b (if (M x).isSome then n else n + 1) (updV M x (some u)) → Kept (fun k => k = b) w w' → wpList Try.prog ops Q rest (a.put o.dst undef) w') : wpList Try.prog ops Q (o :: rest) a w := by
  refine wpList_plain hg fun K' hK' => ?_
  obtain ⟨w', hrun, h1, h2⟩ := hM.put ht hx hn u
  unfold Oper.wp
  simp only [execOp, hop, hm, hi, hv, hrun, Sem.run_bind, Result.andThen_ok, Sem.run_pure]
  exact hK' _ _ (hK w' h1 (kept_grown h2))
theorem wpList_mapv_del (hg : o.guard = none) (t : TypeId) (m i : Operand) (hop : o.op = Op.call { callee := Callee.builtin Builtin.delete, args := #[m, i], argTypes := #[t, 3] }) {e : TypeId} (ht : Try.prog.underlying t = some (.map 3 e))
    (hm : a.eval m = .map (some b)) (hM : MapV w b n M) (hi : a.eval i = .int .i64 x) (hx : I64 x)
    (hK : ∀ w', MapV w' b (if (M x).isSome then n - 1 else n) (updV M x none) → Kept (fun k => k = b) w w' → wpList Try.prog ops Q rest (a.put o.dst (.tuple #[])) w') : wpList Try.prog ops Q (o :: rest) a w := by
  refine wpList_plain hg fun K' hK' => ?_
  obtain ⟨w', hrun, h1, h2⟩ := hM.del ht hx o.type
  unfold Oper.wp
  simp [execOp, hop, resolve, invoke, builtin, hm, hi, hrun, Result.andThen]
  exact hK' _ _ (hK w' h1 (kept_grown h2))
theorem wpList_mapv_len (hg : o.guard = none) (t : TypeId) (m : Operand) (hop : o.op = Op.call { callee := Callee.builtin Builtin.len, args := #[m], argTypes := #[t] }) {e : TypeId} (ht : Try.prog.underlying t = some (.map 3 e))
    (hm : a.eval m = .map (some b)) (hM : MapV w b n M) (hK : wpList Try.prog ops Q rest (a.put o.dst (.int .i64 n)) w) : wpList Try.prog ops Q (o :: rest) a w := by
  refine wpList_plain hg fun K' hK' => ?_
  have hrun := hM.len ht o.type
  unfold Oper.wp
  simp [execOp, hop, resolve, invoke, builtin, hm, hrun, Result.andThen]
  exact hK' _ _ hK
end
end Go.Proofs.Ytmcdmcnbnnfhnaa
