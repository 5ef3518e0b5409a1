/-
  A map from strings to truth values of the call's own, as a set of strings.
-/
import Derived.Test.YtnpfalloelmflaaLb
import Derived.Maps.OwnSet
namespace Go.Proofs.Ytnpfalloelmflaa
open Go.RowKit Go.Maps
set_option maxRecDepth 100000

/-! How many different strings. -/
def uniq (S : List Str) : List Str := S.foldl (fun acc s => if s ∈ acc then acc else acc ++ [s]) []
theorem uniq_snoc (S : List Str) (s : Str) : uniq (S ++ [s]) = if s ∈ uniq S then uniq S else uniq S ++ [s] := by unfold uniq; rw [List.foldl_append]; rfl
theorem uniq_mem (S : List Str) (x : Str) : x ∈ uniq S ↔ x ∈ S := by
  have : ∀ (S acc : List Str), x ∈ S.foldl (fun acc s => if s ∈ acc then acc else acc ++ [s]) acc ↔ x ∈ acc ∨ x ∈ S := by
    intro S
    induction S with
    | nil => simp
    | cons s S ih =>
      intro acc
      rw [List.foldl_cons, ih]
      by_cases h : s ∈ acc
      · rw [if_pos h]
        constructor
        · rintro (h' | h')
          · exact .inl h'
          · exact .inr (List.mem_cons_of_mem _ h')
        · rintro (h' | h')
          · exact .inl h'
          · rcases List.mem_cons.1 h' with rfl | h'
            · exact .inl h
            · exact .inr h'
      · rw [if_neg h]
        simp only [List.mem_append, List.mem_cons, List.not_mem_nil, or_false]
        exact or_assoc
  simpa [uniq] using this S []
theorem uniq_nodup (S : List Str) : (uniq S).Nodup := by
  have : ∀ (S acc : List Str), acc.Nodup → (S.foldl (fun acc s => if s ∈ acc then acc else acc ++ [s]) acc).Nodup := by
    intro S
    induction S with
    | nil => intro acc h; exact h
    | cons s S ih =>
      intro acc h
      rw [List.foldl_cons]
      refine ih _ ?_
      split
      · exact h
      · rename_i hn
        rw [List.nodup_append]
        refine ⟨h, by simp, fun a ha b hb => ?_⟩
        rw [List.mem_singleton] at hb
        subst hb
        rintro rfl
        exact hn ha
  exact this S [] List.nodup_nil
theorem nodup_le : ∀ {b L : List Str}, b.Nodup → (∀ x ∈ b, x ∈ L) → b.length ≤ L.length
  | [], _, _, _ => Nat.zero_le _
  | x :: b, L, hn, hs => by
    rw [List.nodup_cons] at hn
    have h1 : ∀ y ∈ b, y ∈ L.erase x := fun y hy => (List.mem_erase_of_ne (by rintro rfl; exact hn.1 hy)).2 (hs y (List.mem_cons_of_mem _ hy))
    have h2 := nodup_le hn.2 h1
    have h3 := List.length_erase_of_mem (hs x (List.mem_cons_self ..))
    have h4 : 0 < L.length := List.length_pos_of_mem (hs x (List.mem_cons_self ..))
    rw [List.length_cons]; omega
/-- The number of different strings is the length of every list of them without repetition. -/
theorem uniq_len {S L : List Str} (hn : L.Nodup) (h : ∀ x, x ∈ L ↔ x ∈ S) : (uniq S).length = L.length :=
  Nat.le_antisymm (nodup_le (uniq_nodup S) fun x hx => (h x).2 ((uniq_mem S x).1 hx)) (nodup_le hn fun x hx => (uniq_mem S x).2 ((h x).1 hx))

/-- Block b is a map of at most n entries whose keys are the strings of S, each with the value true. -/
def SetB (w : World) (b n : Nat) (S : List Str) : Prop :=
  ∃ D : DataW Unit, w.ownsMap Try.prog 9 (plainElem Try.prog 4) b n D ∧ (∀ s : Str, has D (.string s) = decide (s ∈ S)) ∧ (∀ s : Str, s ∈ S → ∀ z, D.atKey (.string s) z = .lit (.bool true)) ∧ size D = (uniq S).length

theorem SetB.made (w : World) : SetB (w.alloc (.map #[] 0)) w.heap.size 0 [] :=
  ⟨.map [], World.ownsMap_made w _ _ _, fun s => by simp [has_eq], fun s h => by simp at h, rfl⟩
theorem SetB.lt {w : World} {b n : Nat} {S : List Str} (h : SetB w b n S) : b < w.heap.size := by obtain ⟨D, h, _⟩ := h; exact h.lt
theorem SetB.kept {w w' : World} {row : Option Nat} {b n : Nat} {S : List Str} (h : SetB w b n S) (hg : w.grownBy w' row) (hne : some b ≠ row) : SetB w' b n S := by
  obtain ⟨D, h1, h2⟩ := h; exact ⟨D, h1.kept hg hne, h2⟩
theorem SetB.on {w w' : World} {b n : Nat} {S : List Str} (h : SetB w b n S) (hb : Below w.heap.size w w') : SetB w' b n S := by
  obtain ⟨D, ⟨es, clock, h1, h2⟩, h3⟩ := h
  exact ⟨D, ⟨es, clock, by rw [hb.block b (Array.getElem?_eq_some_iff.1 h1).1]; exact h1, h2⟩, h3⟩
theorem SetB.mono {w : World} {b n m : Nat} {S : List Str} (h : SetB w b n S) (hn : n ≤ m) : SetB w b m S := by
  obtain ⟨D, h1, h2⟩ := h; exact ⟨D, h1.mono hn, h2⟩

theorem keyStr {s : Str} (h : s.length ≤ maxLen) : keyOf Try.prog 9 (.string (toB s)) = some (.string s) := by
  have hu := Try.underlying9
  have hz : (ByteArray.mk s.toArray).size ≤ maxLen := by simpa [ByteArray.size] using h
  simp [keyOf, mapKey, hu, toB, hz]

/-- make(map). -/
theorem wpList_make_map {P : Program} {w : World} {ops : Array Oper} {rest : List Oper} {o : Oper} {a : Act} {Q : Exit → Act → World → Prop} (hg : o.guard = none) (t : TypeId) (hop : o.op = Op.makeMap t none)
    (hK : wpList P ops Q rest (a.put o.dst (.map (some w.heap.size))) (w.alloc (.map #[] 0))) : wpList P ops Q (o :: rest) a w := by
  refine wpList_plain hg fun K' hK' => ?_
  have hrun := run_makeMap (P := P) t w
  unfold Oper.wp
  simp only [execOp, hop, Sem.run_bind, Sem.run_pure]
  exact hK' _ _ hK
/-- set[s], asked. -/
theorem wpList_lookup_set {w : World} {ops : Array Oper} {rest : List Oper} {o : Oper} {a : Act} {Q : Exit → Act → World → Prop}
    (hg : o.guard = none) (m x : Operand) (hop : o.op = Op.lookup 49 m x false) (b n : Nat) (S : List Str) (s : Str)
    (hm : a.eval m = .map (some b)) (hs : SetB w b n S) (hx : a.eval x = .string (toB s)) (hl : s.length ≤ maxLen) {bv : Bool} (hbv : decide (s ∈ S) = bv)
    (hK : wpList Try.prog ops Q rest (a.put o.dst (.bool bv)) w) : wpList Try.prog ops Q (o :: rest) a w := by
  subst hbv
  obtain ⟨D, hown, hh, hat, _⟩ := hs
  refine wpList_plain hg fun K' hK' => ?_
  obtain ⟨v, ps, hrun, hv⟩ := hown.lookup (string_keyed Try.underlying9) Try.underlying49 (Try.zeroValue4 w) (plainElem_bool Try.underlying4 false) (keyStr hl)
  have hvb : v = .bool (decide (s ∈ S)) := by
    by_cases h : s ∈ S
    · rw [hat s h] at hv
      unfold plainElem at hv
      rw [Try.underlying4] at hv
      cases v <;> simp at hv
      simp [h, hv]
    · rw [atKey_of_not_has (by rw [hh s]; exact decide_eq_false h)] at hv
      unfold plainElem at hv
      rw [Try.underlying4] at hv
      cases v <;> simp at hv
      simp [h, hv]
  subst hvb
  unfold Oper.wp
  simp only [execOp, hop, hm, hx, hrun, Sem.run_bind, Result.andThen_ok, Sem.run_pure]
  exact hK' _ _ hK
theorem SetB.put {w w' : World} {b n : Nat} {S : List Str} {D : DataW Unit} {s : Str} (hown : w.ownsMap Try.prog 9 (plainElem Try.prog 4) b n D) (hh : ∀ s : Str, has D (.string s) = decide (s ∈ S))
    (hat : ∀ s : Str, s ∈ S → ∀ z, D.atKey (.string s) z = .lit (.bool true)) (hsz : size D = (uniq S).length) (h : w'.ownsMap Try.prog 9 (plainElem Try.prog 4) b (n + 1) (D.put (.string s) (.lit (.bool true)))) : SetB w' b (n + 1) (S ++ [s]) := by
  have hk : ∀ s : Str, WideAt.IsKeyLit (.string s) := fun s => trivial
  have hne : ∀ {x : Str}, x ≠ s → (Lit.string x : Lit) ≠ .string s := fun h e => h (by injection e)
  refine ⟨_, h, fun x => ?_, fun x hx z => ?_, ?_⟩
  · by_cases e : x = s
    · subst e
      rw [has_put_same hown.isMap (hk _)]; simp
    · rw [has_put_other (hne e), hh x]
      simp [e]
  · by_cases e : x = s
    · subst e
      exact atKey_put_same hown.isMap (hk _) _ _
    · rw [atKey_put_other (hne e)]
      exact hat x (by simpa [e] using hx) z
  · rw [size_put (hown.tidy (string_keyed Try.underlying9)), hh s, uniq_snoc, hsz]
    by_cases e : s ∈ S
    · rw [if_pos (decide_eq_true e), if_pos ((uniq_mem S s).2 e)]
    · rw [if_neg (by simp [e]), if_neg (fun h => e ((uniq_mem S s).1 h)), List.length_append]; rfl
/-- set[s] = true. -/
theorem wpList_store_set {w : World} {ops : Array Oper} {rest : List Oper} {o : Oper} {a : Act} {Q : Exit → Act → World → Prop}
    (hg : o.guard = none) (m x v : Operand) (hop : o.op = Op.mapUpdate 49 m x v) (b n : Nat) (S : List Str) (s : Str)
    (hm : a.eval m = .map (some b)) (hs : SetB w b n S) (hn : n < maxLen) (hx : a.eval x = .string (toB s)) (hl : s.length ≤ maxLen) (hv : a.eval v = .bool true)
    (hK : ∀ w', SetB w' b (n + 1) (S ++ [s]) → w.grownBy w' (some b) → wpList Try.prog ops Q rest (a.put o.dst undef) w') : wpList Try.prog ops Q (o :: rest) a w := by
  obtain ⟨D, hown, hh, hat, hsz⟩ := hs
  exact wpList_mapUpdate_own w hg m x v _ hop _ _ (string_keyed Try.underlying9) Try.underlying49 _ b n D hm hown hn _ _ (.string s) hx hv (keyStr hl) (.lit (.bool true)) [] (plainElem_bool Try.underlying4 true)
    (fun w' h1 h2 => hK w' (SetB.put hown hh hat hsz h1) h2)
/-- len(set). -/
theorem wpList_len_set {w : World} {ops : Array Oper} {rest : List Oper} {o : Oper} {a : Act} {Q : Exit → Act → World → Prop}
    (hg : o.guard = none) (m : Operand) (hop : o.op = Op.call { callee := Callee.builtin Builtin.len, args := #[m], argTypes := #[49] }) (b n : Nat) (S : List Str)
    (hm : a.eval m = .map (some b)) (hs : SetB w b n S)
    (hK : wpList Try.prog ops Q rest (a.put o.dst (.int .i64 ((uniq S).length : Nat))) w) : wpList Try.prog ops Q (o :: rest) a w := by
  obtain ⟨D, hown, _, _, hsz⟩ := hs
  refine wpList_plain hg fun K' hK' => ?_
  have hrun := hown.len Try.underlying49 o.type
  unfold Oper.wp execOp
  rw [hop]
  simp only [resolve, invoke, builtin, Sem.run_bind, Sem.run_pure, Result.andThen_ok, List.map_toArray, List.map_cons, List.map_nil, hm, hrun, hsz]
  exact hK' _ _ hK
end Go.Proofs.Ytnpfalloelmflaa
