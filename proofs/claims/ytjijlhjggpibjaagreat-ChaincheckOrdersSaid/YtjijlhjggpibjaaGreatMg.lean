/-
  Maps of the call's own, as functions from keys to elements: made, asked, written.
-/
import Derived.Test.YtjijlhjggpibjaaGreatMa
namespace Go.Proofs.YtjijlhjggpibjaaGreat
open Go.RowKit Go.Maps
set_option maxRecDepth 100000

/-- A map type: how its keys and elements are written. -/
structure MapTy (κ α : Type) where
  t : TypeId
  k : TypeId
  e : TypeId
  kd : Keyed Tryz.prog k
  ht : Tryz.prog.underlying t = some (.map k e)
  kv : κ → Value
  kl : κ → Lit
  ok : κ → Prop
  hkey : ∀ s, ok s → keyOf Tryz.prog k (kv s) = some (kl s)
  klit : ∀ s, WideAt.IsKeyLit (kl s)
  kinj : ∀ s s', kl s = kl s' → s = s'
  V : α → Value
  dec : Value → Option α
  Dt : α → DataW Unit
  dV : ∀ a, dec (V a) = some a
  Vd : ∀ v a, dec v = some a → v = V a
  Dinj : ∀ a b, Dt a = Dt b → a = b
  z0 : α
  hz : ∀ w, (zeroValue e).run Tryz.prog w = .ok (V z0) w
variable {κ α : Type}
def MapTy.R (T : MapTy κ α) (v : Value) : Option (DataW Unit × List MemPlace) := (T.dec v).map fun a => (T.Dt a, [])
theorem MapTy.R_mk (T : MapTy κ α) (a : α) : T.R (T.V a) = some (T.Dt a, []) := by unfold MapTy.R; rw [T.dV]; rfl
theorem MapTy.R_inv (T : MapTy κ α) {v : Value} {y : DataW Unit × List MemPlace} (h : T.R v = some y) : ∃ a, v = T.V a ∧ y.1 = T.Dt a := by
  unfold MapTy.R at h
  cases hd : T.dec v with
  | none => rw [hd] at h; cases h
  | some a =>
    rw [hd] at h
    injection h with h
    exact ⟨a, T.Vd _ _ hd, by rw [← h]⟩
/-- Block b is a map of at most n entries that holds just what M says. -/
def MapAt (T : MapTy κ α) (w : World) (b n : Nat) (M : κ → Option α) : Prop :=
  ∃ D : DataW Unit, w.ownsMap Tryz.prog T.k T.R b n D ∧ ∀ s, (M s = none → ∀ z, D.atKey (T.kl s) z = z) ∧ ∀ a, M s = some a → ∀ z, D.atKey (T.kl s) z = T.Dt a
section
variable {T : MapTy κ α} {w w' : World} {b n : Nat} {M : κ → Option α}
theorem MapAt.made (T : MapTy κ α) (w : World) : MapAt T (w.alloc (.map #[] 0)) w.heap.size 0 (fun _ => none) :=
  ⟨.map [], World.ownsMap_made w _ _ _, fun s => ⟨fun _ z => rfl, fun a h => by cases h⟩⟩
theorem MapAt.ofEmpty (T : MapTy κ α) (h : w.heap[b]? = some (.map #[] 0)) : MapAt T w b 0 (fun _ => none) := by
  have hlt := (Array.getElem?_eq_some_iff.1 h).1
  refine ⟨.map [], ?_, fun s => ⟨fun _ z => rfl, fun a h => by cases h⟩⟩
  obtain ⟨es, clock, h1, h2⟩ := World.ownsMap_made (H := Unit) w Tryz.prog T.k T.R
  have h3 := heap_alloc_new w (Obj.map #[] 0)
  rw [h3] at h1
  injection h1 with h1
  injection h1 with e1 e2
  subst e1 e2
  exact ⟨_, _, h, h2⟩
theorem MapAt.lt (h : MapAt T w b n M) : b < w.heap.size := by obtain ⟨D, h, _⟩ := h; exact h.lt
theorem MapAt.kept {row : Option Nat} (h : MapAt T w b n M) (hg : w.grownBy w' row) (hne : some b ≠ row) : MapAt T w' b n M := by
  obtain ⟨D, h1, h2⟩ := h; exact ⟨D, h1.kept hg hne, h2⟩
theorem MapAt.at_ (h : MapAt T w b n M) (hb : w'.heap[b]? = w.heap[b]?) : MapAt T w' b n M := by
  obtain ⟨D, ⟨es, clock, h1, h2⟩, h3⟩ := h
  exact ⟨D, ⟨es, clock, hb.trans h1, h2⟩, h3⟩
theorem MapAt.on (h : MapAt T w b n M) (hb : Below w.heap.size w w') : MapAt T w' b n M := h.at_ (hb.block b h.lt)
theorem MapAt.setCell (h : MapAt T w b n M) {p : Addr} (hp : b ≠ p.block) (u : Value) : MapAt T (w.setCell p u) b n M := h.at_ (Below.heap_setCell w p u b hp)
theorem MapAt.mono {m : Nat} (h : MapAt T w b n M) (hn : n ≤ m) : MapAt T w b m M := by
  obtain ⟨D, h1, h2⟩ := h; exact ⟨D, h1.mono hn, h2⟩
theorem MapAt.congr {M' : κ → Option α} (h : MapAt T w b n M) (he : ∀ s, M s = M' s) : MapAt T w b n M' := by rw [← show M = M' from funext he]; exact h
theorem MapAt.run (h : MapAt T w b n M) (c : Bool) (s : κ) (hs : T.ok s) :
    (Instr.lookup T.t (.map (some b)) (T.kv s) c).run Tryz.prog w = .ok (if c then .tuple #[T.V ((M s).getD T.z0), .bool (M s).isSome] else T.V ((M s).getD T.z0)) w := by
  obtain ⟨D, ⟨es, clock, hb, F, hs1, rfl⟩, hM⟩ := h
  obtain ⟨h1, h2⟩ := hM s
  have two : (DataW.lit (.bool true) : DataW Unit) ≠ .lit (.bool false) := fun e => by injection e with e; injection e with e; cases e
  rcases Maps.fit_look c T.kd T.ht (T.hz w) hb F (T.hkey s hs) with ⟨hrun, _, hat⟩ | ⟨e0, y, _, _, hrun, hRv, hat, _⟩
  · cases hm : M s with
    | none => rw [hrun]; rfl
    | some a =>
      have e1 := h2 a hm (.lit (.bool true))
      have e2 := h2 a hm (.lit (.bool false))
      rw [hat] at e1 e2
      exact absurd (e1.trans e2.symm) two
  · obtain ⟨a, ha, hy⟩ := T.R_inv hRv
    cases hm : M s with
    | none =>
      have e1 := h1 hm (.lit (.bool true))
      have e2 := h1 hm (.lit (.bool false))
      rw [hat] at e1 e2
      exact absurd (e1.symm.trans e2) two
    | some a' =>
      have e1 := h2 a' hm (.lit (.bool true))
      rw [hat, hy] at e1
      have := T.Dinj _ _ e1
      subst this
      rw [hrun, ha]; rfl
def updM [DecidableEq κ] (M : κ → Option α) (s : κ) (a : α) : κ → Option α := fun x => if x = s then some a else M x
theorem updM_same [DecidableEq κ] (M : κ → Option α) (s : κ) (a : α) : updM M s a s = some a := if_pos rfl
theorem updM_other [DecidableEq κ] (M : κ → Option α) {s x : κ} (a : α) (h : ¬ x = s) : updM M s a x = M x := if_neg h
end
/-- m[s], asked without and with ok. -/
theorem wpList_map_get (T : MapTy κ α) {w : World} {ops : Array Oper} {rest : List Oper} {o : Oper} {a : Act} {Q : Exit → Act → World → Prop}
    (hg : o.guard = none) (m x : Operand) (hop : o.op = Op.lookup T.t m x false) (b n : Nat) (M : κ → Option α) (s : κ) (hm : a.eval m = .map (some b)) (hM : MapAt T w b n M) (hx : a.eval x = T.kv s) (hs : T.ok s)
    {v : Value} (hv : T.V ((M s).getD T.z0) = v) (hK : wpList Tryz.prog ops Q rest (a.put o.dst v) w) : wpList Tryz.prog ops Q (o :: rest) a w := by
  subst hv
  refine wpList_plain hg fun K' hK' => ?_
  have hrun := hM.run false s hs
  simp only [Bool.false_eq_true, if_false] at hrun
  unfold Oper.wp
  simp only [execOp, hop, hm, hx, hrun, Sem.run_bind, Result.andThen_ok, Sem.run_pure]
  exact hK' _ _ hK
theorem wpList_map_ok (T : MapTy κ α) {w : World} {ops : Array Oper} {rest : List Oper} {o : Oper} {a : Act} {Q : Exit → Act → World → Prop}
    (hg : o.guard = none) (m x : Operand) (hop : o.op = Op.lookup T.t m x true) (b n : Nat) (M : κ → Option α) (s : κ) (hm : a.eval m = .map (some b)) (hM : MapAt T w b n M) (hx : a.eval x = T.kv s) (hs : T.ok s)
    {v : Value} {c : Bool} (hv : T.V ((M s).getD T.z0) = v) (hc : (M s).isSome = c) (hK : wpList Tryz.prog ops Q rest (a.put o.dst (.tuple #[v, .bool c])) w) : wpList Tryz.prog ops Q (o :: rest) a w := by
  subst hv hc
  refine wpList_plain hg fun K' hK' => ?_
  have hrun := hM.run true s hs
  simp only [if_true] at hrun
  unfold Oper.wp
  simp only [execOp, hop, hm, hx, hrun, Sem.run_bind, Result.andThen_ok, Sem.run_pure]
  exact hK' _ _ hK
/-- m[s] = e. -/
theorem wpList_map_put [DecidableEq κ] (T : MapTy κ α) {w : World} {ops : Array Oper} {rest : List Oper} {o : Oper} {a : Act} {Q : Exit → Act → World → Prop}
    (hg : o.guard = none) (m x v : Operand) (hop : o.op = Op.mapUpdate T.t m x v) (b n : Nat) (M : κ → Option α) (s : κ) (y : α) (hm : a.eval m = .map (some b)) (hM : MapAt T w b n M) (hn : n < maxLen) (hx : a.eval x = T.kv s) (hs : T.ok s) (hv : a.eval v = T.V y)
    (hK : ∀ w', MapAt T w' b (n + 1) (updM M s y) → w.grownBy w' (some b) → wpList Tryz.prog ops Q rest (a.put o.dst undef) w') : wpList Tryz.prog ops Q (o :: rest) a w := by
  obtain ⟨D, hown, hD⟩ := hM
  refine wpList_mapUpdate_own w hg m x v T.t hop T.k T.e T.kd T.ht T.R b n D hm hown hn (T.kv s) (T.V y) (T.kl s) hx hv (T.hkey s hs) (T.Dt y) [] (T.R_mk y) fun w' h1 h2 => hK w' ⟨_, h1, fun z => ?_⟩ h2
  by_cases e : z = s
  · subst e
    rw [updM_same]
    exact ⟨(fun h => by cases h), fun a ha d => by injection ha with ha; subst ha; exact atKey_put_same hown.isMap (T.klit _) _ _⟩
  · rw [updM_other _ _ e]
    have hne : T.kl z ≠ T.kl s := fun h => e (T.kinj _ _ h)
    exact ⟨fun h d => by rw [atKey_put_other hne]; exact (hD z).1 h d, fun a ha d => by rw [atKey_put_other hne]; exact (hD z).2 a ha d⟩
end Go.Proofs.YtjijlhjggpibjaaGreat
