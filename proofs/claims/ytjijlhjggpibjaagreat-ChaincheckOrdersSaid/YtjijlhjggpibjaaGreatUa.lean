/-
  Chapter 55, plain: the chain and the order of the reference.
  Chapter 55: lists of sets of the call's own: append, two places, a place written.
  Chapter 55: a list of sets that is read, and level of the reference.
-/
import Derived.Test.YtjijlhjggpibjaaGreatGs
import Derived.Test.YtjijlhjggpibjaaGreatGg
import Derived.Test.YtjijlhjggpibjaaGreatKd
import Derived.Test.YtjijlhjggpibjaaGreatGm
import Derived.Test.YtjijlhjggpibjaaGreatGn
namespace Go.Proofs.YtjijlhjggpibjaaGreat

theorem same_iff2 {a b : List Str} : sameS a b = true ↔ ∀ x, x ∈ a ↔ x ∈ b := by
  unfold sameS
  rw [Bool.and_eq_true, sub_iff, sub_iff]
  exact ⟨fun h x => ⟨h.1 x, h.2 x⟩, fun h => ⟨fun x => (h x).1, fun x => (h x).2⟩⟩
/-! Sorting by exchange. -/
section
variable {α : Type}
def swp (l : List α) (i k : Nat) : List α := match l[i]?, l[k]? with | some x, some y => (l.set i y).set k x | _, _ => l
theorem swp_eq {l : List α} {i k : Nat} (hi : i < l.length) (hk : k < l.length) : swp l i k = (l.set i l[k]).set k l[i] := by
  unfold swp
  rw [List.getElem?_eq_getElem hi, List.getElem?_eq_getElem hk]
theorem swp_len (l : List α) (i k : Nat) : (swp l i k).length = l.length := by
  unfold swp
  split
  · simp
  · rfl
theorem swp_get {l : List α} {i k : Nat} (hi : i < l.length) (hk : k < l.length) {j : Nat} (hj : j < l.length) : ∃ h : j < (swp l i k).length, (swp l i k)[j] = if j = k then l[i] else if j = i then l[k] else l[j] := by
  refine ⟨by rw [swp_len]; exact hj, ?_⟩
  simp only [swp_eq hi hk, List.getElem_set]
  by_cases e1 : k = j
  · rw [if_pos e1, if_pos e1.symm]
  · rw [if_neg e1, if_neg (Ne.symm e1)]
    by_cases e2 : i = j
    · rw [if_pos e2, if_pos e2.symm]
    · rw [if_neg e2, if_neg (Ne.symm e2)]
theorem set_perm : ∀ {l : List α} {i : Nat} (hi : i < l.length) (y : α), (l[i] :: l.set i y).Perm (y :: l)
  | a :: l, 0, _, y => List.Perm.swap _ _ _
  | a :: l, i + 1, hi, y => by
    have hi' : i < l.length := by simpa using hi
    have ih := set_perm hi' y
    show (l[i] :: a :: l.set i y).Perm (y :: a :: l)
    exact (List.Perm.swap _ _ _).trans ((List.Perm.cons a ih).trans (List.Perm.swap _ _ _))
theorem swp_perm {l : List α} {i k : Nat} (hi : i < l.length) (hk : k < l.length) : (swp l i k).Perm l := by
  rw [swp_eq hi hk]
  have h1 := set_perm hi l[k]
  have hk2 : k < (l.set i l[k]).length := by simpa using hk
  have h2 := set_perm hk2 l[i]
  have e : (l.set i l[k])[k] = l[k] := by
    rw [List.getElem_set]
    split
    · rfl
    · rfl
  rw [e] at h2
  exact List.Perm.cons_inv (h2.trans h1)
/-- The first i are in order, and before all others; nothing between i and k comes before i. -/
structure ExS (lt : α → α → Prop) (U : List α) (i k : Nat) (L : List α) : Prop where
  perm : L.Perm U
  done : ∀ a b (ha : a < L.length) (hb : b < L.length), a < i → a < b → ¬ lt L[b] L[a]
  row : ∀ b (hb : b < L.length) (hi : i < L.length), i < b → b < k → ¬ lt L[b] L[i]
variable {lt : α → α → Prop} {U L : List α} {i k : Nat}
theorem ExS.start (U : List α) : ExS lt U 0 1 U := ⟨.refl _, fun a b _ _ h => by omega, fun b _ _ h1 h2 => by omega⟩
theorem ExS.skip (h : ExS lt U i k L) (hk : ∀ (hi : i < L.length) (hkl : k < L.length), ¬ lt L[k] L[i]) : ExS lt U i (k + 1) L := ⟨h.perm, h.done, fun b hb hi h1 h2 => by
  by_cases e : b = k
  · subst e; exact hk hi hb
  · exact h.row b hb hi h1 (by omega)⟩
theorem ExS.swap (h : ExS lt U i k L) (ha : ∀ x y, lt x y → ¬ lt y x) (ht : ∀ x y z, ¬ lt y x → ¬ lt z y → ¬ lt z x) (hik : i < k) (hk : k < L.length) (hlt : lt L[k] (L[i]'(by omega))) : ExS lt U i (k + 1) (swp L i k) := by
  have hi : i < L.length := by omega
  have hg := fun {j : Nat} (hj : j < L.length) => swp_get hi hk hj
  have hl := swp_len L i k
  refine ⟨(swp_perm hi hk).trans h.perm, fun a b ha' hb hai hab => ?_, fun b hb hi' h1 h2 => ?_⟩
  · have ha2 : a < L.length := by omega
    have hb2 : b < L.length := by omega
    obtain ⟨_, ea⟩ := hg ha2
    obtain ⟨_, eb⟩ := hg hb2
    rw [ea, eb, if_neg (show ¬ a = k by omega), if_neg (show ¬ a = i by omega)]
    by_cases e1 : b = k
    · rw [if_pos e1]; exact h.done a i ha2 hi hai hai
    · rw [if_neg e1]
      by_cases e2 : b = i
      · rw [if_pos e2]; exact h.done a k ha2 hk hai (by omega)
      · rw [if_neg e2]; exact h.done a b ha2 hb2 hai hab
  · have hb2 : b < L.length := by omega
    obtain ⟨_, eb⟩ := hg hb2
    obtain ⟨_, ei⟩ := hg hi
    rw [ei, eb, if_neg (show ¬ i = k by omega), if_pos rfl]
    by_cases e1 : b = k
    · rw [if_pos e1]; exact ha _ _ hlt
    · rw [if_neg e1, if_neg (show ¬ b = i by omega)]
      exact ht _ _ _ (ha _ _ hlt) (h.row b hb2 hi h1 (by omega))
theorem ExS.next (h : ExS lt U i k L) (hk : L.length ≤ k) : ExS lt U (i + 1) (i + 2) L := ⟨h.perm, fun a b ha hb hai hab => by
  by_cases e : a = i
  · subst e; exact h.row b hb ha hab (by omega)
  · exact h.done a b ha hb (by omega) hab, fun b _ _ h1 h2 => by omega⟩
theorem ExS.sorted (h : ExS lt U i k L) (hi : L.length ≤ i) : L.Pairwise fun a b => ¬ lt b a := by
  rw [List.pairwise_iff_getElem]
  intro a b ha hb hab
  exact h.done a b ha hb (by omega) hab
end

/-! The sets of the reads, in the order of their first reads. -/
def setsK (h : List Opn) : Nat → List (List Str)
  | 0 => []
  | k + 1 => if RdI h k ∧ (setsK h k).any (fun s => sameS s (seeO (nth h k))) = false then setsK h k ++ [ofL (seeO (nth h k))] else setsK h k
section
variable {h : List Opn}
theorem setsK_sorted : ∀ (k : Nat), ∀ s ∈ setsK h k, s.Pairwise (· < ·)
  | 0, s, hs => by cases hs
  | k + 1, s, hs => by
    unfold setsK at hs
    split at hs
    · rcases List.mem_append.1 hs with h1 | h1
      · exact setsK_sorted k s h1
      · rw [List.mem_singleton.1 h1]; exact ofL_sorted _
    · exact setsK_sorted k s hs
theorem same_ofL {s xs : List Str} (hs : s.Pairwise (· < ·)) (h : sameS s xs = true) : s = ofL xs := (ofL_eq hs fun x => same_iff2.1 h x).symm
theorem setsK_mem : ∀ (k : Nat) (X : List Str), X ∈ setsK h k ↔ ∃ r, r < k ∧ RdI h r ∧ X = setI h r
  | 0, X => ⟨fun h => (by cases h), fun ⟨r, h1, _⟩ => (by omega)⟩
  | k + 1, X => by
    have ih := setsK_mem k X
    unfold setsK
    by_cases hr : RdI h k
    · cases ha : (setsK h k).any fun s => sameS s (seeO (nth h k)) with
      | false =>
        rw [if_pos ⟨hr, rfl⟩, List.mem_append, ih, List.mem_singleton]
        constructor
        · rintro (⟨r, a, b, c⟩ | a)
          · exact ⟨r, by omega, b, c⟩
          · exact ⟨k, by omega, hr, a⟩
        · rintro ⟨r, a, b, c⟩
          by_cases e : r = k
          · subst e; exact .inr c
          · exact .inl ⟨r, by omega, b, c⟩
      | true =>
        rw [if_neg (by rintro ⟨_, q⟩; cases q), ih]
        constructor
        · rintro ⟨r, a, b, c⟩; exact ⟨r, by omega, b, c⟩
        · rintro ⟨r, a, b, c⟩
          by_cases e : r = k
          · subst e
            obtain ⟨s, hs, hq⟩ := List.any_eq_true.1 ha
            have h1 := same_ofL (setsK_sorted r s hs) hq
            obtain ⟨q, q1, q2, q3⟩ := (setsK_mem r s).1 hs
            exact ⟨q, q1, q2, by rw [c, ← q3, h1]; rfl⟩
          · exact ⟨r, by omega, b, c⟩
    · rw [if_neg (fun q => hr q.1), ih]
      constructor
      · rintro ⟨r, a, b, c⟩; exact ⟨r, by omega, b, c⟩
      · rintro ⟨r, a, b, c⟩
        have : ¬ r = k := by rintro rfl; exact hr b
        exact ⟨r, by omega, b, c⟩
theorem setsK_nodup : ∀ k, (setsK h k).Nodup
  | 0 => .nil
  | k + 1 => by
    unfold setsK
    split
    · rename_i hq
      rw [List.nodup_append]
      refine ⟨setsK_nodup k, by simp, fun a ha b hb e => ?_⟩
      rw [List.mem_singleton.1 hb] at e
      have h1 := List.any_eq_false.1 hq.2 a ha
      refine h1 (same_iff2.2 fun x => ?_)
      rw [e, mem_ofL]
    · exact setsK_nodup k
/-- Sorted by length the different sets are the chain. -/
theorem sets_chain (_ : Well h) {C L : List (List Str)} (hc : ChainD h h.length C) (hp : L.Perm (setsK h h.length)) (hs : L.Pairwise fun a b => ¬ b.length < a.length) : L = C := by
  have hm : ∀ X, X ∈ L ↔ X ∈ C := fun X => by rw [hp.mem_iff, setsK_mem, hc.mem]
  have hnd : L.Nodup := hp.nodup_iff.2 (setsK_nodup _)
  have hlen : ∀ a ∈ C, ∀ b ∈ C, a.length = b.length → a = b := fun a ha b hb e => by
    obtain ⟨i, hi, rfl⟩ := List.getElem_of_mem ha
    obtain ⟨j, hj, rfl⟩ := List.getElem_of_mem hb
    rcases Nat.lt_trichotomy i j with h1 | h1 | h1
    · have := (List.pairwise_iff_getElem.1 hc.inc i j hi hj h1).2; omega
    · subst h1; rfl
    · have := (List.pairwise_iff_getElem.1 hc.inc j i hj hi h1).2; omega
  have h1 : L.Pairwise fun a b => a.length < b.length := by
    refine List.Pairwise.imp_of_mem ?_ (hs.and hnd)
    intro a b ha hb hab
    rcases Nat.lt_or_ge a.length b.length with h2 | h2
    · exact h2
    · have : a.length = b.length := by have := hab.1; omega
      exact absurd (hlen a ((hm a).1 ha) b ((hm b).1 hb) this) hab.2
  have h2 : C.Pairwise fun a b => a.length < b.length := hc.inc.imp fun h => h.2
  have key : ∀ {l m : List (List Str)}, l.Pairwise (fun a b => a.length < b.length) → m.Pairwise (fun a b => a.length < b.length) → (∀ x, x ∈ l ↔ x ∈ m) → l = m := by
    intro l
    induction l with
    | nil =>
      intro m _ _ hx
      cases m with
      | nil => rfl
      | cons b m => exact absurd ((hx b).2 (List.mem_cons_self ..)) (by simp)
    | cons a l ih =>
      intro m hl hm' hx
      cases m with
      | nil => exact absurd ((hx a).1 (List.mem_cons_self ..)) (by simp)
      | cons b m =>
        rw [List.pairwise_cons] at hl hm'
        have e : a = b := by
          rcases List.mem_cons.1 ((hx a).1 (List.mem_cons_self ..)) with e | h3
          · exact e
          · rcases List.mem_cons.1 ((hx b).2 (List.mem_cons_self ..)) with e | h4
            · exact e.symm
            · have := hl.1 b h4; have := hm'.1 a h3; omega
        subst e
        congr 1
        refine ih hl.2 hm'.2 fun x => ?_
        have h3 := hx x
        rw [List.mem_cons, List.mem_cons] at h3
        constructor
        · intro q
          rcases h3.1 (.inr q) with e | h4
          · subst e; have := hl.1 x q; omega
          · exact h4
        · intro q
          rcases h3.2 (.inr q) with e | h4
          · subst e; have := hm'.1 x q; omega
          · exact h4
  exact key h1 h2 hm
/-- Whether two reads of the history can not be compared. -/
def cmpAll (h : List Opn) : Prop := ∀ r q, r < h.length → q < h.length → RdI h r → RdI h q → WithI h r q ∨ WithI h q r
theorem cmp_ref : refF h 4 = [] ↔ cmpAll h := by
  rw [refF_p (by decide) (by decide)]
  have e : refP h 4 = none ↔ cmpAll h := by
    rw [refP4, pair_none]
    constructor
    · intro h1 r q hr hq rr rq
      have h2 := h1 r (mem_rdK.2 ⟨hr, rr⟩) q (mem_rdK.2 ⟨hq, rq⟩)
      by_cases a : WithI h r q
      · exact .inl a
      · by_cases b : WithI h q r
        · exact .inr b
        · rw [decide_eq_false a, decide_eq_false b] at h2; cases h2
    · intro h1 r hr q hq
      obtain ⟨a1, a2⟩ := mem_rdK.1 hr
      obtain ⟨b1, b2⟩ := mem_rdK.1 hq
      rcases h1 r q a1 b1 a2 b2 with c | c
      · rw [decide_eq_true c]; rfl
      · rw [decide_eq_true c]; simp
  cases hq : refP h 4 with
  | none => exact ⟨fun _ => e.1 hq, fun _ => rfl⟩
  | some p => exact ⟨fun q => (by cases q), fun q => (by rw [e.2 q] at hq; cases hq)⟩
/-- A chain there is only if all reads can be compared. -/
theorem chain_cmp (hw : Well h) : ∀ {k : Nat} {C : List (List Str)}, k ≤ h.length → chainK h k = some C → (∀ r, r < k → RdI h r → setI h r ∈ C) ∧ (∀ r q, r < k → q < k → RdI h r → RdI h q → WithI h r q ∨ WithI h q r)
  | 0, C, _, _ => ⟨fun r hr => by omega, fun r q hr => by omega⟩
  | k + 1, C, hk, hc => by
    unfold chainK at hc
    cases hd : chainK h k with
    | none => rw [hd] at hc; cases hc
    | some D =>
      rw [hd] at hc
      obtain ⟨h1, h2⟩ := chain_cmp hw (by omega) hd
      simp only at hc
      by_cases hr : RdI h k
      · rw [if_pos hr] at hc
        by_cases hb : badL (setI h k) D = true
        · rw [if_pos hb] at hc; cases hc
        · rw [if_neg hb] at hc
          injection hc with hc
          subst hc
          have hb2 : ∀ S ∈ D, (S = setI h k ∨ subB S (setI h k) = true) ∨ subB (setI h k) S = true := fun S hS => by
            have h3 := List.any_eq_false.1 (Bool.eq_false_iff.2 hb : D.any _ = false) S hS
            by_cases a : S = setI h k
            · exact .inl (.inl a)
            · by_cases b : subB S (setI h k) = true
              · exact .inl (.inr b)
              · by_cases c : subB (setI h k) S = true
                · exact .inr c
                · exfalso
                  rw [decide_eq_false a, Bool.eq_false_iff.2 b, Bool.eq_false_iff.2 c] at h3
                  exact h3 rfl
          have hpair : ∀ r, r < k → RdI h r → WithI h r k ∨ WithI h k r := fun r hrk rr => by
            rcases hb2 _ (h1 r hrk rr) with (a | a) | a
            · left
              rw [set_see hw (by omega), set_see hw (by omega)] at a
              intro s hs
              rwa [a] at hs
            · left
              have b := sub_iff.1 a
              rw [set_see hw (by omega), set_see hw (by omega)] at b
              exact b
            · right
              have b := sub_iff.1 a
              rw [set_see hw (by omega), set_see hw (by omega)] at b
              exact b
          have hin : ∀ X, X ∈ D → X ∈ insC D (setI h k) := fun X hX => by
            unfold insC
            split
            · exact hX
            · rw [← List.take_append_drop (atL (setI h k) D) D] at hX
              rcases List.mem_append.1 hX with a | a
              · exact List.mem_append_left _ a
              · exact List.mem_append_right _ (List.mem_cons_of_mem _ a)
          refine ⟨fun r hrk rr => ?_, fun r q hrk hqk rr rq => ?_⟩
          · by_cases e : r = k
            · subst e
              unfold insC
              split
              · rename_i hm; exact hm
              · simp
            · exact hin _ (h1 r (by omega) rr)
          · by_cases e1 : r = k
            · by_cases e2 : q = k
              · subst e1; subst e2; exact .inl fun s hs => hs
              · subst e1; exact (hpair q (by omega) rq).symm
            · by_cases e2 : q = k
              · subst e2; exact hpair r (by omega) rr
              · exact h2 r q (by omega) (by omega) rr rq
      · rw [if_neg hr] at hc
        injection hc with hc
        subst hc
        refine ⟨fun r hrk rr => ?_, fun r q hrk hqk rr rq => ?_⟩
        · have : ¬ r = k := by rintro rfl; exact hr rr
          exact h1 r (by omega) rr
        · have e1 : ¬ r = k := by rintro rfl; exact hr rr
          have e2 : ¬ q = k := by rintro rfl; exact hr rq
          exact h2 r q (by omega) (by omega) rr rq
theorem chain_none : chainR h = none ↔ ¬ ((chkL h).2 = 0 ∧ refF h 4 = []) := by
  unfold chainR
  by_cases h0 : (chkL h).2 = 0
  · rw [if_pos h0]
    have hw := chk_well.1 h0
    constructor
    · rintro h1 ⟨_, h2⟩
      obtain ⟨C, h3, _⟩ := chain_is hw (cmp_ref.1 h2) h.length (Nat.le_refl _)
      rw [h1] at h3; cases h3
    · intro h1
      cases hc : chainK h h.length with
      | none => rfl
      | some C => exact absurd ⟨h0, cmp_ref.2 (chain_cmp hw (Nat.le_refl _) hc).2⟩ h1
  · rw [if_neg h0]
    exact ⟨fun _ q => h0 q.1, fun _ => rfl⟩
theorem chain_some (hw : Well h) (hc : cmpAll h) : ∃ C, chainR h = some C ∧ ChainD h h.length C := by
  obtain ⟨C, h1, h2⟩ := chain_is hw hc h.length (Nat.le_refl _)
  exact ⟨C, by unfold chainR; rw [if_pos (chk_well.2 hw)]; exact h1, h2⟩
end
end Go.Proofs.YtjijlhjggpibjaaGreat
namespace Go.Proofs.YtjijlhjggpibjaaGreat
open Go.RowKit

set_option maxRecDepth 100000 in
/-- append of one set. -/
theorem append_setC {ops : Array Oper} {rest : List Oper} {o : Oper} {a : Act} {w w0 : World} {Q : Exit → Act → World → Prop} (hgd : o.guard = none) (s x : Operand)
    (ho : o.op = .call { callee := .builtin .append, args := #[s, x], argTypes := #[28, 28] })
    (v : Value) (C : List (List Str)) (l : List Str) (u : Value) (g : Nat) (hs : a.eval s = v) (hown : OwnC w0 w v C) (hx : a.eval x = .slice (some ⟨g, 0, none⟩) 1 1) (hB : Blk w g 33 #[u]) (hu : RowS w u l) (hlen : C.length ≤ 1000000)
    (h : ∀ v' w', OwnC w0 w' v' (C ++ [l]) → KeepS w w' → wpList Tryz.prog ops Q rest (a.put o.dst v') w') : wpList Tryz.prog ops Q (o :: rest) a w := by
  obtain ⟨hb, cells, hrow, hc⟩ := hown
  obtain ⟨ua, uk, rfl⟩ := rowS_slc hu
  refine append_set1 hgd s x ho w0.heap.size C.length g v cells (.slice ua l.length uk) hs hrow hlen hb.size hx ?_ rfl ?_
  · have := hB.cell 0
    simpa using this
  · intro v' w' h1 h2
    have hk := KeepS.grown hrow h2
    refine h v' w' ⟨hb.grown h2 hb.size (fun j hj => (hrow.lt j hj).1), cells ++ [.slice ua l.length uk], by rw [List.length_append]; exact h1, fun k hkl => ?_⟩ hk
    have hcl : cells.length = C.length := by simpa using hrow.1
    by_cases hlt : k < C.length
    · obtain ⟨z, q1, q2⟩ := hc k hlt
      exact ⟨z, by rw [List.getElem?_append_left (by omega)]; exact q1, by rw [List.getElem_append_left hlt]; exact q2.kept hk⟩
    · have hk' : k = C.length := by simp at hkl; omega
      subst hk'
      exact ⟨.slice ua l.length uk, by rw [List.getElem?_append_right (by omega), hcl, Nat.sub_self]; rfl, by rw [List.getElem_append_right (Nat.le_refl _)]; simpa using hu.kept hk⟩
/-- Two places. -/
theorem OwnC.two {w0 wr : World} {v : Value} {C : List (List Str)} (h : OwnC w0 wr v C) {i k : Nat} (hi : i < C.length) (hk : k < C.length) :
    ∃ g cap ai ci ak ck, v = .slice (some ⟨g, 0, none⟩) C.length cap ∧ w0.heap.size ≤ g ∧ g < wr.heap.size ∧ wr.cell? ⟨g, i, none⟩ = some (.slice ai C[i].length ci) ∧ wr.cell? ⟨g, k, none⟩ = some (.slice ak C[k].length ck) ∧ RowS wr (.slice ai C[i].length ci) C[i] ∧ RowS wr (.slice ak C[k].length ck) C[k] ∧ wr.frozen? ⟨g, i, none⟩ = false ∧ wr.frozen? ⟨g, k, none⟩ = false := by
  obtain ⟨g, cap, ai, ci, rfl, h1, h2, h3, h4⟩ := h.at_ hi
  obtain ⟨g', cap', ak, ck, e, _, _, h5, h6⟩ := h.at_ hk
  injection e with e _ _
  injection e with e
  injection e with e _ _
  subst e
  obtain ⟨_, cells, hrow, _⟩ := h
  exact ⟨g, cap, ai, ci, ak, ck, rfl, h1, h2, h3, h5, h4, h6, hrow.frozenAt i, hrow.frozenAt k⟩
/-- A block of sets is not one of strings. -/
theorem keepS_set {w w0 : World} {g cap n : Nat} {cells : List Value} (h : w.ownsRow w0.heap.size 33 1 (.slice (some ⟨g, 0, none⟩) n cap) n cells) (i : Nat) (u : Value) : KeepS w (w.setCell ⟨g, i, none⟩ u) := by
  rcases h.2 with ⟨h1, _⟩ | ⟨g1, c1, cur1, h1, _, hg1, _⟩
  · injection h1 with h1 _ _
    cases h1
  · injection h1 with h1 _ _
    injection h1 with h1
    injection h1 with h1 _ _
    subst h1
    intro b cur hB
    have hne : b ≠ g := by
      intro e
      subst e
      unfold Blk at hB
      rw [hg1] at hB
      injection hB with hB
      injection hB with _ ht
      exact absurd ht (by decide)
    exact hB.far (p := ⟨g, i, none⟩) hne u
theorem OwnC.put {w0 w : World} {C : List (List Str)} {g n cap i : Nat} (h : OwnC w0 w (.slice (some ⟨g, 0, none⟩) n cap) C) {u : Value} {x : List Str} (hu : RowS w u x) (hi : i < C.length) :
    OwnC w0 (w.setCell ⟨g, i, none⟩ u) (.slice (some ⟨g, 0, none⟩) n cap) (C.set i x) ∧ KeepS w (w.setCell ⟨g, i, none⟩ u) := by
  obtain ⟨hb, cells, hrow, hc⟩ := h
  have hg : w0.heap.size ≤ g := (hrow.lt g rfl).1
  have hn : n = C.length := by
    rcases hrow.2 with ⟨h1, _⟩ | ⟨_, _, _, h1, _⟩
    · cases h1
    · injection h1
  subst hn
  have hk := keepS_set hrow i u
  have hcl : cells.length = C.length := by simpa using hrow.1
  refine ⟨⟨hb.setCell hg _, cells.set i u, by rw [List.length_set]; exact (hrow.stored i u).1, fun k hkl => ?_⟩, hk⟩
  have hkl' : k < C.length := by simpa using hkl
  obtain ⟨z, q1, q2⟩ := hc k hkl'
  by_cases e : i = k
  · subst e
    exact ⟨u, by rw [List.getElem?_set, if_pos rfl, if_pos (by omega)], by rw [List.getElem_set, if_pos rfl]; exact hu.kept hk⟩
  · exact ⟨z, by rw [List.getElem?_set, if_neg e]; exact q1, by rw [List.getElem_set, if_neg e]; exact q2.kept hk⟩
/-- The exchange. -/
theorem OwnC.swap {w0 w : World} {C : List (List Str)} {g n cap i k : Nat} (h : OwnC w0 w (.slice (some ⟨g, 0, none⟩) n cap) C) {ui uk : Value} (hi : i < C.length) (hk : k < C.length) (hui : RowS w ui C[i]) (huk : RowS w uk C[k]) :
    OwnC w0 ((w.setCell ⟨g, i, none⟩ uk).setCell ⟨g, k, none⟩ ui) (.slice (some ⟨g, 0, none⟩) n cap) (swp C i k) := by
  obtain ⟨h1, h2⟩ := h.put huk hi
  have h3 := (h1.put (hui.kept h2) (i := k) (by simpa using hk)).1
  rw [swp_eq hi hk]
  exact h3
theorem OwnC.slc {w0 w : World} {v : Value} {C : List (List Str)} (h : OwnC w0 w v C) : ∃ a c, v = .slice a C.length c := by
  obtain ⟨_, cells, h2, _⟩ := h; exact row_slc h2
/-- Whether a list of sets holds the set. -/
def anyS (ys : List Str) (C : List (List Str)) (j : Nat) : Bool := (C.take j).any fun s => sameS s ys
theorem anyS_snoc {ys : List Str} {C : List (List Str)} {j : Nat} (hj : j < C.length) : anyS ys C (j + 1) = (anyS ys C j || sameS C[j] ys) := by
  unfold anyS
  rw [List.take_succ_eq_append_getElem hj, List.any_append]; simp
section
variable {h : List Opn} {k : Nat}
theorem setsK_no (hr : rdO (nth h k) = false) : setsK h (k + 1) = setsK h k := by
  have hn : ¬ RdI h k := fun q => by
    have : rdO (nth h k) = true := decide_eq_true q
    rw [hr] at this; cases this
  show (if _ then _ else _) = _
  rw [if_neg fun q => hn q.1]
theorem setsK_old (ha : anyS (seeO (nth h k)) (setsK h k) (setsK h k).length = true) : setsK h (k + 1) = setsK h k := by
  unfold anyS at ha
  rw [List.take_length] at ha
  show (if _ then _ else _) = _
  rw [if_neg]
  rintro ⟨_, q⟩
  rw [ha] at q; cases q
theorem setsK_new (hr : rdO (nth h k) = true) (ha : anyS (seeO (nth h k)) (setsK h k) (setsK h k).length = false) : setsK h (k + 1) = setsK h k ++ [ofL (seeO (nth h k))] := by
  unfold anyS at ha
  rw [List.take_length] at ha
  show (if _ then _ else _) = _
  rw [if_pos ⟨of_decide_eq_true hr, ha⟩]
theorem setsK_len : ∀ k, (setsK h k).length ≤ k
  | 0 => Nat.le_refl _
  | k + 1 => by
    have := setsK_len k
    unfold setsK
    split
    · simp; omega
    · omega
end
/-- Whether an operation has a level. -/
def lvCond (o : Opn) (S : List Str) : Bool := (rdO o && sameS S (seeO o)) || (upO o && subB (addO o) S)
def lvN (C : List (List Str)) (o : Opn) : Nat := (C.findIdx? (lvCond o)).getD C.length
def lvOk (C : List (List Str)) (o : Opn) : Bool := (C.findIdx? (lvCond o)).isSome || (upO o && decide (0 ≤ endO o))
theorem lv_at {C : List (List Str)} {o : Opn} {i : Nat} (hi : i < C.length) (h1 : ∀ j (hj : j < C.length), j < i → lvCond o C[j] = false) (h2 : lvCond o C[i] = true) : lvN C o = i ∧ lvOk C o = true := by
  have e : C.findIdx? (lvCond o) = some i := by
    rw [List.findIdx?_eq_some_iff_getElem]
    exact ⟨hi, h2, fun j hj => by rw [h1 j (by omega) hj]; decide⟩
  unfold lvN lvOk
  rw [e]; exact ⟨rfl, rfl⟩
theorem lv_none {C : List (List Str)} {o : Opn} (h1 : ∀ j (hj : j < C.length), lvCond o C[j] = false) : lvN C o = C.length ∧ lvOk C o = (upO o && decide (0 ≤ endO o)) := by
  have e : C.findIdx? (lvCond o) = none := by
    rw [List.findIdx?_eq_none_iff]
    intro x hx
    obtain ⟨j, hj, rfl⟩ := List.getElem_of_mem hx
    exact h1 j hj
  unfold lvN lvOk
  rw [e]; exact ⟨rfl, rfl⟩
section
variable {h : List Opn} {C : List (List Str)}
theorem same_eq {a b : List Str} (ha : a.Pairwise (· < ·)) (hb : b.Pairwise (· < ·)) : sameS a b = decide (a = b) := by
  by_cases e : a = b
  · rw [decide_eq_true e, e]
    exact same_iff2.2 fun x => Iff.rfl
  · rw [decide_eq_false e]
    exact Bool.eq_false_iff.2 fun q => e (sorted_unique a b ha hb (same_iff2.1 q))
theorem chain_sorted (hc : ChainD h h.length C) {S : List Str} (hS : S ∈ C) : S.Pairwise (· < ·) := by
  obtain ⟨r, _, _, rfl⟩ := (hc.mem S).1 hS
  exact ofL_sorted _
theorem see_sorted (hw : Well h) {r : Nat} (hr : r < h.length) : (seeO (nth h r)).Pairwise (· < ·) := by
  rw [← set_see hw hr]; exact ofL_sorted _
/-- The level of an operation in the reference is that in the program. -/
theorem lev_is (hw : Well h) (hc : ChainD h h.length C) {i : Nat} (hi : i < h.length) : lvOk C (nth h i) = incI h i ∧ (incI h i = true → lvN C (nth h i) = lvC h C i) := by
  by_cases hr : RdI h i
  · have hrd : rdO (nth h i) = true := decide_eq_true hr
    have hup : upO (nth h i) = false := decide_eq_false (by rw [hr.1]; decide)
    obtain ⟨hj, he⟩ := read_ix hw hc hi hr
    have hcond : ∀ S ∈ C, lvCond (nth h i) S = decide (S = seeO (nth h i)) := fun S hS => by
      unfold lvCond
      rw [hrd, hup, same_eq (chain_sorted hc hS) (see_sorted hw hi)]; simp
    obtain ⟨h1, h2⟩ := lv_at (C := C) (o := nth h i) hj (fun j hj' hlt => by
      rw [hcond _ (List.getElem_mem hj')]
      refine decide_eq_false fun e => ?_
      have := (List.pairwise_iff_getElem.1 hc.inc j _ hj' hj hlt).2
      rw [he, e] at this
      omega) (by rw [hcond _ (List.getElem_mem hj)]; exact decide_eq_true he)
    have hin : incI h i = true := by unfold incI; rw [decide_eq_true hr]; rfl
    refine ⟨by rw [h2, hin], fun _ => ?_⟩
    rw [h1]
    unfold lvC
    rw [if_neg (by rw [hr.1]; decide)]
  · have hrd : rdO (nth h i) = false := decide_eq_false hr
    by_cases hu : UpI h i
    · have hup : upO (nth h i) = true := decide_eq_true hu
      have hcond : ∀ S, lvCond (nth h i) S = subB (addO (nth h i)) S := fun S => by
        unfold lvCond
        rw [hrd, hup]; simp
      have hlv : lvC h C i = minL ((showers h i).map fun r => ixL C (seeO (nth h r)).length) C.length := by
        unfold lvC
        rw [if_pos (show kindO (nth h i) = 1 from hu)]
      have hinc : incI h i = (decide (0 ≤ endO (nth h i)) || !(showers h i).isEmpty) := by
        unfold incI
        rw [decide_eq_false hr, decide_eq_true hu]; simp
      cases hf : C.findIdx? (lvCond (nth h i)) with
      | some j =>
        obtain ⟨hj, h1, h2⟩ := List.findIdx?_eq_some_iff_getElem.1 hf
        have hlo : lvOk C (nth h i) = true := by unfold lvOk; rw [hf]; rfl
        have hln : lvN C (nth h i) = j := by unfold lvN; rw [hf]; rfl
        obtain ⟨r, r1, r2, r3⟩ := (hc.mem C[j]).1 (List.getElem_mem hj)
        have r4 : C[j] = seeO (nth h r) := by rw [r3, set_see hw r1]
        have hsh : r ∈ showers h i := mem_showers.2 ⟨r1, r2, fun s hs => by
          rw [hcond] at h1
          rw [← r4]
          exact sub_iff.1 h1 s hs⟩
        refine ⟨?_, fun _ => ?_⟩
        · rw [hlo, hinc]
          cases hsw : showers h i with
          | nil => rw [hsw] at hsh; cases hsh
          | cons a l => simp
        · rw [hln, hlv]
          have hix : ixL C (seeO (nth h r)).length = j := by
            rw [← r4]; exact ix_at hc.inc hj
          have hle := minL_le (b := C.length) (List.mem_map.2 ⟨r, hsh, rfl⟩ : ixL C (seeO (nth h r)).length ∈ (showers h i).map fun r => ixL C (seeO (nth h r)).length)
          rw [hix] at hle
          rcases minL_mem (b := C.length) ((showers h i).map fun r => ixL C (seeO (nth h r)).length) with h3 | h3
          · omega
          · obtain ⟨p, hp, he⟩ := List.mem_map.1 h3
            obtain ⟨p1, p2, p3⟩ := mem_showers.1 hp
            obtain ⟨q1, q2⟩ := read_ix hw hc p1 p2
            refine Nat.le_antisymm ?_ hle
            refine Nat.le_of_not_lt fun hlt => ?_
            rw [← he] at hlt
            have h4 := h2 _ hlt
            rw [hcond, q2] at h4
            exact h4 (sub_iff.2 p3)
      | none =>
        rw [List.findIdx?_eq_none_iff] at hf
        obtain ⟨h1, h2⟩ := lv_none (C := C) (o := nth h i) fun j hj => hf _ (List.getElem_mem hj)
        have hsh : showers h i = [] := by
          cases hsw : showers h i with
          | nil => rfl
          | cons r l =>
            obtain ⟨p1, p2, p3⟩ := mem_showers.1 (show r ∈ showers h i by rw [hsw]; exact List.mem_cons_self ..)
            obtain ⟨q1, q2⟩ := read_ix hw hc p1 p2
            have h4 := hf _ (List.getElem_mem q1)
            rw [hcond, q2] at h4
            rw [sub_iff.2 p3] at h4
            cases h4
        refine ⟨?_, fun _ => ?_⟩
        · rw [h2, hinc, hsh, hup]; simp
        · rw [h1, hlv, hsh]; rfl
    · have hup : upO (nth h i) = false := decide_eq_false hu
      have h0 : lvOk C (nth h i) = false := by
        rw [(lv_none (C := C) (o := nth h i) fun j hj => by unfold lvCond; rw [hrd, hup]; rfl).2, hup]; rfl
      have h1 : incI h i = false := by unfold incI; rw [decide_eq_false hr, decide_eq_false hu]; rfl
      exact ⟨by rw [h0, h1], fun q => by rw [h1] at q; cases q⟩
theorem filter_out : ((List.range h.length).filter (incI h)).Perm (outL h) := by
  rw [List.perm_ext_iff_of_nodup (List.Pairwise.filter _ List.nodup_range) outL_nodup]
  intro a
  rw [List.mem_filter, List.mem_range, outL_mem]
end
end Go.Proofs.YtjijlhjggpibjaaGreat
namespace Go.Proofs.YtjijlhjggpibjaaGreat
open Go.RowKit

/-- A list of sets, read. -/
def SetsR (w : World) (v : Value) (C : List (List Str)) : Prop := ∃ a c, v = .slice a C.length c ∧ C.length ≤ c ∧ c ≤ 9223372036854775807 ∧ ∀ k (h : k < C.length), ∃ g off sa sc, a = some ⟨g, off, none⟩ ∧ g < w.heap.size ∧ w.cell? ⟨g, off + k, none⟩ = some (.slice sa C[k].length sc) ∧ Reads vs w (.slice sa C[k].length sc) C[k]
theorem SetsR.on {w w' : World} {v : Value} {C : List (List Str)} (h : SetsR w v C) (hb : Below w.heap.size w w') : SetsR w' v C := by
  obtain ⟨a, c, h1, h2, h3, h4⟩ := h
  refine ⟨a, c, h1, h2, h3, fun k hk => ?_⟩
  obtain ⟨g, off, sa, sc, e1, e2, e3, e4⟩ := h4 k hk
  exact ⟨g, off, sa, sc, e1, Nat.lt_of_lt_of_le e2 hb.size, (hb.cell (p := ⟨g, off + k, none⟩) e2).trans e3, e4.keep hb⟩
theorem SetsR.of {w0 w : World} {v : Value} {C : List (List Str)} (h : OwnC w0 w v C) : SetsR w v C := by
  have h0 := h
  obtain ⟨_, cells, h2, _⟩ := h0
  have hl : ∃ a c, v = .slice a C.length c ∧ C.length ≤ c ∧ c ≤ 9223372036854775807 := by
    rcases h2.2 with ⟨rfl, h3⟩ | ⟨g, cap, cur, rfl, _, _, hn, hm, _, _⟩
    · exact ⟨none, 0, by rw [h3], by omega, by omega⟩
    · unfold maxLen at hm
      exact ⟨_, cap, rfl, hn, by omega⟩
  obtain ⟨a, c, rfl, h3, h4⟩ := hl
  refine ⟨a, c, rfl, h3, h4, fun k hk => ?_⟩
  obtain ⟨g, cap, sa, sc, e1, _, e2, e3, e4⟩ := h.at_ hk
  injection e1 with e1 _ _
  exact ⟨g, 0, sa, sc, e1, e2, by rw [Nat.zero_add]; exact e3, e4.reads⟩
theorem rd_up_no {o : Opn} (h : rdO o = true) : upO o = false := by
  have h1 := of_decide_eq_true h
  exact decide_eq_false (by omega)
def LevMade (W : World) (C : List (List Str)) (x : Opn) (e : Ending) (w' : World) : Prop := e = .returned (.tuple #[.int .i64 ((lvN C x : Nat) : Int), .bool (lvOk C x)]) ∧ Below W.heap.size W w'

set_option maxRecDepth 100000 in
set_option maxHeartbeats 16000000 in
theorem level_any (cv v : Value) (C : List (List Str)) (x : Opn) (W : World) (hc : SetsR W cv C) (hx : OpAt W v x) (hfx : fitO x) (hfc : ∀ s ∈ C, s.length ≤ 1000) : Calls Tryz.prog 24 #[cv, v] W (LevMade W C x) := by
  have HC := Lib.hid hc
  obtain ⟨ca, cc, rfl, hcl, hcm, -⟩ := hc
  obtain ⟨va, vz, rfl, ra, rz⟩ := hx
  obtain ⟨xa, na, ka, rfl⟩ := Slc.of_reads ra
  obtain ⟨ya, ny, ky, rfl⟩ := Slc.of_reads rz
  have hx1 := hfx.1
  have hx2 := hfx.2
  have HFC := Lib.hid hfc
  have HB0 : Hid (Below W.heap.size W (W.alloc (.cells #[.int .i64 (cliO x), .int .i64 (kindO x), .int .i64 (begO x), .int .i64 (endO x), .slice xa na ka, .slice ya ny ky] 39))) := Lib.hid ((Below.refl _ _).alloc (Nat.le_refl _) _)
  have HX0 : Hid (BoxO (W.alloc (.cells #[.int .i64 (cliO x), .int .i64 (kindO x), .int .i64 (begO x), .int .i64 (endO x), .slice xa na ka, .slice ya ny ky] 39)) W.heap.size x (.slice xa na ka) (.slice ya ny ky)) := Lib.hid ⟨Blk.new _ _ _, ra.keep HB0.out, rz.keep HB0.out⟩
  have mixed : Tryz.prog.follows .mixedOrders = true := by kernel_rfl
  clear ra rz hfx hfc
  unfold opV
  go_enter Tryz.func24, Tryz.ntmps24
  go_wp2
  go_loopg [6] C.length (fun m i wr => ∃ k : Nat, m + k = C.length ∧ i = .int .i64 ((k : Nat) : Int) ∧ BoxO wr W.heap.size x (.slice xa na ka) (.slice ya ny ky) ∧ Below W.heap.size W wr ∧ ∀ j (hj : j < C.length), j < k → lvCond x C[j] = false)
  case atStart => exact ⟨0, by omega, rfl, HX0.out, HB0.out, fun j hj h0 => by omega⟩
  case round =>
    clear HX0 HB0
    obtain ⟨k, hmk, rfl, hbox, hbel, hall⟩ := hrel
    have HM := Lib.hid hmk
    have HX := Lib.hid hbox
    have KW := Lib.hid hbel
    have HALL := Lib.hid hall
    have hk : k ≤ C.length := by omega
    clear hmk hbox hbel hall
    by_cases hkl : k < C.length
    · obtain ⟨aq, cq, hv, _, _, hcell⟩ := HC.out.on KW.out
      injection hv with e1 e2 e3
      obtain ⟨g, off, sa, sc, e4, hg, hcs, hrs⟩ := hcell k hkl
      rw [e4] at e1
      subst e1
      have hki : (k : Int) < C.length := by omega
      have hk0 : (0 : Int) ≤ (k : Int) := by omega
      have HS := Lib.hid (And.intro hg (And.intro hcs hrs))
      have hsl := HFC.out _ (List.getElem_mem hkl)
      have HYE := Lib.hid (fun q => lv_at (o := x) hkl HALL.out q)
      have HNX : Hid (lvCond x C[k] = false → ∀ j (hj : j < C.length), j < k + 1 → lvCond x C[j] = false) := Lib.hid fun q j hj hlt => by
        by_cases e : j = k
        · subst e; exact q
        · exact HALL.out j hj (by omega)
      clear e2 e3 e4 hcell hg hcs hrs
      generalize C[k] = S at *
      clear hkl
      cases h1 : rdO x with
      | true =>
        have h3 := rd_up_no h1
        cases h2 : sameS S (seeO x) with
        | true =>
          have P1 := Lib.hid h1
          have P2 := Lib.hid h2
          have P3 := Lib.hid h3
          have HE := Lib.hid (HYE.out (by unfold lvCond; simp [h1, h2, h3]))
          clear h1 h2 h3
          go_upto_region 4 with fail
          refine region_left [.is (.agg #[.int .i64 (cliO x), .int .i64 (kindO x), .int .i64 (begO x), .int .i64 (endO x), .slice xa na ka, .slice ya ny ky]), .is (.bool true), .is (.bool true), .is (.slice (some ⟨g, off, none⟩) C.length cc), .is (.int .i64 (k : Int)), .is (.pointer (some ⟨g, off + k, none⟩)), .is (.slice sa S.length sc), .is (.pointer (some ⟨W.heap.size, 5, none⟩)), .is (.slice ya ny ky), .is (.bool true), .is (.bool true), .is (.bool true), .is undef, .is undef, .is undef, .is undef, .is undef, .is undef, .is undef, .is undef, .is undef, .is undef, .is undef, .is (.bool true)] (by kernel_rfl) rfl (by kernel_rfl) (by kernel_rfl) (.cons ?r1_0 (.cons ?r1_1 (.cons ?r1_2 (.cons ?r1_3 (.cons ?r1_4 (.cons ?r1_5 (.cons ?r1_6 (.cons ?r1_7 (.cons ?r1_8 (.cons ?r1_9 (.cons ?r1_10 (.cons ?r1_11 (.cons ?r1_12 (.cons ?r1_13 (.cons ?r1_14 (.cons ?r1_15 (.cons ?r1_16 (.cons ?r1_17 (.cons ?r1_18 (.cons ?r1_19 (.cons ?r1_20 (.cons ?r1_21 (.cons ?r1_22 (.cons ?r1_23 .nil)))))))))))))))))))))))) ?r1_fin
          case r1_0 =>
            intro wq hbw st  K hK
            have KQ := KW.out.trans (hbw.mono KW.out.size)
            have HXQ := HX.out.on hbw
            simp only [Act.put, List.setIfInBounds_toArray, List.set_cons_zero, List.set_cons_succ] at hK ⊢
            unfold opStep
            rw [if_pos (by rfl)]
            obtain ⟨d0, d1, d2, d3, d4, d5, dl⟩ := blk6 HXQ.1
            go_simp
            exact hK.out _ _ (Below.refl _ _) rfl _ rfl
          case r1_1 =>
            intro wq hbw st  K hK
            have KQ := KW.out.trans (hbw.mono KW.out.size)
            have HXQ := HX.out.on hbw
            simp only [Act.put, List.setIfInBounds_toArray, List.set_cons_zero, List.set_cons_succ] at hK ⊢
            unfold opStep
            rw [if_pos (by rfl)]
            go_simp
            have hpc := rread_any _ x wq HXQ.at_
            rw [P1.out] at hpc
            refine hpc.mono ?_
            rintro e wz ⟨rfl, hbz⟩
            go_simp
            exact hK.out _ _ hbz rfl _ rfl
          case r1_2 =>
            intro wq hbw st  K hK
            have KQ := KW.out.trans (hbw.mono KW.out.size)
            have HXQ := HX.out.on hbw
            simp only [Act.put, List.setIfInBounds_toArray, List.set_cons_zero, List.set_cons_succ] at hK ⊢
            unfold opStep
            rw [if_pos (by rfl)]
            go_simp
            exact hK.out _ _ (Below.refl _ _) rfl _ rfl
          case r1_3 =>
            intro wq hbw st  K hK
            have KQ := KW.out.trans (hbw.mono KW.out.size)
            have HXQ := HX.out.on hbw
            simp only [Act.put, List.setIfInBounds_toArray, List.set_cons_zero, List.set_cons_succ] at hK ⊢
            unfold opStep
            rw [if_pos (by rfl)]
            go_simp
            exact hK.out _ _ (Below.refl _ _) rfl _ rfl
          case r1_4 =>
            intro wq hbw st  K hK
            have KQ := KW.out.trans (hbw.mono KW.out.size)
            have HXQ := HX.out.on hbw
            simp only [Act.put, List.setIfInBounds_toArray, List.set_cons_zero, List.set_cons_succ] at hK ⊢
            unfold opStep
            rw [if_pos (by rfl)]
            go_simp
            exact hK.out _ _ (Below.refl _ _) rfl _ rfl
          case r1_5 =>
            intro wq hbw st  K hK
            have KQ := KW.out.trans (hbw.mono KW.out.size)
            have HXQ := HX.out.on hbw
            simp only [Act.put, List.setIfInBounds_toArray, List.set_cons_zero, List.set_cons_succ] at hK ⊢
            unfold opStep
            rw [if_pos (by rfl)]
            go_simp
            exact hK.out _ _ (Below.refl _ _) rfl _ rfl
          case r1_6 =>
            intro wq hbw st  K hK
            have KQ := KW.out.trans (hbw.mono KW.out.size)
            have HXQ := HX.out.on hbw
            simp only [Act.put, List.setIfInBounds_toArray, List.set_cons_zero, List.set_cons_succ] at hK ⊢
            unfold opStep
            rw [if_pos (by rfl)]
            have cs := (hbw.cell (p := ⟨g, off + k, none⟩) HS.out.1).trans HS.out.2.1
            go_simp
            exact hK.out _ _ (Below.refl _ _) rfl _ rfl
          case r1_7 =>
            intro wq hbw st  K hK
            have KQ := KW.out.trans (hbw.mono KW.out.size)
            have HXQ := HX.out.on hbw
            simp only [Act.put, List.setIfInBounds_toArray, List.set_cons_zero, List.set_cons_succ] at hK ⊢
            unfold opStep
            rw [if_pos (by rfl)]
            go_simp
            exact hK.out _ _ (Below.refl _ _) rfl _ rfl
          case r1_8 =>
            intro wq hbw st  K hK
            have KQ := KW.out.trans (hbw.mono KW.out.size)
            have HXQ := HX.out.on hbw
            simp only [Act.put, List.setIfInBounds_toArray, List.set_cons_zero, List.set_cons_succ] at hK ⊢
            unfold opStep
            rw [if_pos (by rfl)]
            obtain ⟨d0, d1, d2, d3, d4, d5, dl⟩ := blk6 HXQ.1
            go_simp
            exact hK.out _ _ (Below.refl _ _) rfl _ rfl
          case r1_9 =>
            intro wq hbw st  K hK
            have KQ := KW.out.trans (hbw.mono KW.out.size)
            have HXQ := HX.out.on hbw
            simp only [Act.put, List.setIfInBounds_toArray, List.set_cons_zero, List.set_cons_succ] at hK ⊢
            unfold opStep
            rw [if_pos (by rfl)]
            go_simp
            have hpc := rsame_any _ _ S (seeO x) wq ((HS.out.2.2).keep hbw) HXQ.2.2 (by omega) (by omega)
            rw [P2.out] at hpc
            refine hpc.mono ?_
            rintro e wz ⟨rfl, hbz⟩
            go_simp
            exact hK.out _ _ hbz rfl _ rfl
          case r1_10 =>
            intro wq hbw st  K hK
            have KQ := KW.out.trans (hbw.mono KW.out.size)
            have HXQ := HX.out.on hbw
            simp only [Act.put, List.setIfInBounds_toArray, List.set_cons_zero, List.set_cons_succ] at hK ⊢
            unfold opStep
            rw [if_pos (by rfl)]
            go_simp
            exact hK.out _ _ (Below.refl _ _) rfl _ rfl
          case r1_11 =>
            intro wq hbw st  K hK
            have KQ := KW.out.trans (hbw.mono KW.out.size)
            have HXQ := HX.out.on hbw
            simp only [Act.put, List.setIfInBounds_toArray, List.set_cons_zero, List.set_cons_succ] at hK ⊢
            unfold opStep
            rw [if_pos (by rfl)]
            go_simp
            exact hK.out _ _ (Below.refl _ _) rfl _ rfl
          case r1_12 =>
            intro wq hbw st  K hK
            have KQ := KW.out.trans (hbw.mono KW.out.size)
            have HXQ := HX.out.on hbw
            simp only [Act.put, List.setIfInBounds_toArray, List.set_cons_zero, List.set_cons_succ] at hK ⊢
            unfold opStep
            rw [if_neg (by change ¬ (false = true); exact Bool.false_ne_true)]
            exact hK.out _ _ (Below.refl _ _) rfl _ rfl
          case r1_13 =>
            intro wq hbw st  K hK
            have KQ := KW.out.trans (hbw.mono KW.out.size)
            have HXQ := HX.out.on hbw
            simp only [Act.put, List.setIfInBounds_toArray, List.set_cons_zero, List.set_cons_succ] at hK ⊢
            unfold opStep
            rw [if_neg (by change ¬ (false = true); exact Bool.false_ne_true)]
            exact hK.out _ _ (Below.refl _ _) rfl _ rfl
          case r1_14 =>
            intro wq hbw st  K hK
            have KQ := KW.out.trans (hbw.mono KW.out.size)
            have HXQ := HX.out.on hbw
            simp only [Act.put, List.setIfInBounds_toArray, List.set_cons_zero, List.set_cons_succ] at hK ⊢
            unfold opStep
            rw [if_neg (by change ¬ (false = true); exact Bool.false_ne_true)]
            exact hK.out _ _ (Below.refl _ _) rfl _ rfl
          case r1_15 =>
            intro wq hbw st  K hK
            have KQ := KW.out.trans (hbw.mono KW.out.size)
            have HXQ := HX.out.on hbw
            simp only [Act.put, List.setIfInBounds_toArray, List.set_cons_zero, List.set_cons_succ] at hK ⊢
            unfold opStep
            rw [if_neg (by change ¬ (false = true); exact Bool.false_ne_true)]
            exact hK.out _ _ (Below.refl _ _) rfl _ rfl
          case r1_16 =>
            intro wq hbw st  K hK
            have KQ := KW.out.trans (hbw.mono KW.out.size)
            have HXQ := HX.out.on hbw
            simp only [Act.put, List.setIfInBounds_toArray, List.set_cons_zero, List.set_cons_succ] at hK ⊢
            unfold opStep
            rw [if_neg (by change ¬ (false = true); exact Bool.false_ne_true)]
            exact hK.out _ _ (Below.refl _ _) rfl _ rfl
          case r1_17 =>
            intro wq hbw st  K hK
            have KQ := KW.out.trans (hbw.mono KW.out.size)
            have HXQ := HX.out.on hbw
            simp only [Act.put, List.setIfInBounds_toArray, List.set_cons_zero, List.set_cons_succ] at hK ⊢
            unfold opStep
            rw [if_neg (by change ¬ (false = true); exact Bool.false_ne_true)]
            exact hK.out _ _ (Below.refl _ _) rfl _ rfl
          case r1_18 =>
            intro wq hbw st  K hK
            have KQ := KW.out.trans (hbw.mono KW.out.size)
            have HXQ := HX.out.on hbw
            simp only [Act.put, List.setIfInBounds_toArray, List.set_cons_zero, List.set_cons_succ] at hK ⊢
            unfold opStep
            rw [if_neg (by change ¬ (false = true); exact Bool.false_ne_true)]
            exact hK.out _ _ (Below.refl _ _) rfl _ rfl
          case r1_19 =>
            intro wq hbw st  K hK
            have KQ := KW.out.trans (hbw.mono KW.out.size)
            have HXQ := HX.out.on hbw
            simp only [Act.put, List.setIfInBounds_toArray, List.set_cons_zero, List.set_cons_succ] at hK ⊢
            unfold opStep
            rw [if_neg (by change ¬ (false = true); exact Bool.false_ne_true)]
            exact hK.out _ _ (Below.refl _ _) rfl _ rfl
          case r1_20 =>
            intro wq hbw st  K hK
            have KQ := KW.out.trans (hbw.mono KW.out.size)
            have HXQ := HX.out.on hbw
            simp only [Act.put, List.setIfInBounds_toArray, List.set_cons_zero, List.set_cons_succ] at hK ⊢
            unfold opStep
            rw [if_neg (by change ¬ (false = true); exact Bool.false_ne_true)]
            exact hK.out _ _ (Below.refl _ _) rfl _ rfl
          case r1_21 =>
            intro wq hbw st  K hK
            have KQ := KW.out.trans (hbw.mono KW.out.size)
            have HXQ := HX.out.on hbw
            simp only [Act.put, List.setIfInBounds_toArray, List.set_cons_zero, List.set_cons_succ] at hK ⊢
            unfold opStep
            rw [if_neg (by change ¬ (false = true); exact Bool.false_ne_true)]
            exact hK.out _ _ (Below.refl _ _) rfl _ rfl
          case r1_22 =>
            intro wq hbw st  K hK
            have KQ := KW.out.trans (hbw.mono KW.out.size)
            have HXQ := HX.out.on hbw
            simp only [Act.put, List.setIfInBounds_toArray, List.set_cons_zero, List.set_cons_succ] at hK ⊢
            unfold opStep
            rw [if_neg (by change ¬ (false = true); exact Bool.false_ne_true)]
            exact hK.out _ _ (Below.refl _ _) rfl _ rfl
          case r1_23 =>
            intro wq hbw st  K hK
            have KQ := KW.out.trans (hbw.mono KW.out.size)
            have HXQ := HX.out.on hbw
            simp only [Act.put, List.setIfInBounds_toArray, List.set_cons_zero, List.set_cons_succ] at hK ⊢
            unfold opStep
            rw [if_pos (by rfl)]
            go_simp
            exact hK.out _ _ (Below.refl _ _) rfl _ rfl
          case r1_fin =>
            intro wq hbw
            try simp only [FinAll]
            simp only [Act.put, List.setIfInBounds_toArray, List.set_cons_zero, List.set_cons_succ]
            have K3 := Lib.hid (KW.out.trans (hbw.mono KW.out.size))
            clear hbw
            go_wp2
            go_ret2
            unfold LevMade
            rw [HE.out.1, HE.out.2]
            exact ⟨rfl, K3.out⟩
        | false =>
          have P1 := Lib.hid h1
          have P2 := Lib.hid h2
          have P3 := Lib.hid h3
          have HG := Lib.hid (HNX.out (by unfold lvCond; simp [h1, h2, h3]))
          clear h1 h2 h3
          go_upto_region 4 with fail
          refine region_left [.is (.agg #[.int .i64 (cliO x), .int .i64 (kindO x), .int .i64 (begO x), .int .i64 (endO x), .slice xa na ka, .slice ya ny ky]), .is (.bool true), .is (.bool true), .is (.slice (some ⟨g, off, none⟩) C.length cc), .is (.int .i64 (k : Int)), .is (.pointer (some ⟨g, off + k, none⟩)), .is (.slice sa S.length sc), .is (.pointer (some ⟨W.heap.size, 5, none⟩)), .is (.slice ya ny ky), .is (.bool false), .is (.bool false), .is (.bool false), .is (.agg #[.int .i64 (cliO x), .int .i64 (kindO x), .int .i64 (begO x), .int .i64 (endO x), .slice xa na ka, .slice ya ny ky]), .is (.bool false), .is (.bool false), .is undef, .is undef, .is undef, .is undef, .is undef, .is undef, .is undef, .is (.bool false), .is (.bool false)] (by kernel_rfl) rfl (by kernel_rfl) (by kernel_rfl) (.cons ?r2_0 (.cons ?r2_1 (.cons ?r2_2 (.cons ?r2_3 (.cons ?r2_4 (.cons ?r2_5 (.cons ?r2_6 (.cons ?r2_7 (.cons ?r2_8 (.cons ?r2_9 (.cons ?r2_10 (.cons ?r2_11 (.cons ?r2_12 (.cons ?r2_13 (.cons ?r2_14 (.cons ?r2_15 (.cons ?r2_16 (.cons ?r2_17 (.cons ?r2_18 (.cons ?r2_19 (.cons ?r2_20 (.cons ?r2_21 (.cons ?r2_22 (.cons ?r2_23 .nil)))))))))))))))))))))))) ?r2_fin
          case r2_0 =>
            intro wq hbw st  K hK
            have KQ := KW.out.trans (hbw.mono KW.out.size)
            have HXQ := HX.out.on hbw
            simp only [Act.put, List.setIfInBounds_toArray, List.set_cons_zero, List.set_cons_succ] at hK ⊢
            unfold opStep
            rw [if_pos (by rfl)]
            obtain ⟨d0, d1, d2, d3, d4, d5, dl⟩ := blk6 HXQ.1
            go_simp
            exact hK.out _ _ (Below.refl _ _) rfl _ rfl
          case r2_1 =>
            intro wq hbw st  K hK
            have KQ := KW.out.trans (hbw.mono KW.out.size)
            have HXQ := HX.out.on hbw
            simp only [Act.put, List.setIfInBounds_toArray, List.set_cons_zero, List.set_cons_succ] at hK ⊢
            unfold opStep
            rw [if_pos (by rfl)]
            go_simp
            have hpc := rread_any _ x wq HXQ.at_
            rw [P1.out] at hpc
            refine hpc.mono ?_
            rintro e wz ⟨rfl, hbz⟩
            go_simp
            exact hK.out _ _ hbz rfl _ rfl
          case r2_2 =>
            intro wq hbw st  K hK
            have KQ := KW.out.trans (hbw.mono KW.out.size)
            have HXQ := HX.out.on hbw
            simp only [Act.put, List.setIfInBounds_toArray, List.set_cons_zero, List.set_cons_succ] at hK ⊢
            unfold opStep
            rw [if_pos (by rfl)]
            go_simp
            exact hK.out _ _ (Below.refl _ _) rfl _ rfl
          case r2_3 =>
            intro wq hbw st  K hK
            have KQ := KW.out.trans (hbw.mono KW.out.size)
            have HXQ := HX.out.on hbw
            simp only [Act.put, List.setIfInBounds_toArray, List.set_cons_zero, List.set_cons_succ] at hK ⊢
            unfold opStep
            rw [if_pos (by rfl)]
            go_simp
            exact hK.out _ _ (Below.refl _ _) rfl _ rfl
          case r2_4 =>
            intro wq hbw st  K hK
            have KQ := KW.out.trans (hbw.mono KW.out.size)
            have HXQ := HX.out.on hbw
            simp only [Act.put, List.setIfInBounds_toArray, List.set_cons_zero, List.set_cons_succ] at hK ⊢
            unfold opStep
            rw [if_pos (by rfl)]
            go_simp
            exact hK.out _ _ (Below.refl _ _) rfl _ rfl
          case r2_5 =>
            intro wq hbw st  K hK
            have KQ := KW.out.trans (hbw.mono KW.out.size)
            have HXQ := HX.out.on hbw
            simp only [Act.put, List.setIfInBounds_toArray, List.set_cons_zero, List.set_cons_succ] at hK ⊢
            unfold opStep
            rw [if_pos (by rfl)]
            go_simp
            exact hK.out _ _ (Below.refl _ _) rfl _ rfl
          case r2_6 =>
            intro wq hbw st  K hK
            have KQ := KW.out.trans (hbw.mono KW.out.size)
            have HXQ := HX.out.on hbw
            simp only [Act.put, List.setIfInBounds_toArray, List.set_cons_zero, List.set_cons_succ] at hK ⊢
            unfold opStep
            rw [if_pos (by rfl)]
            have cs := (hbw.cell (p := ⟨g, off + k, none⟩) HS.out.1).trans HS.out.2.1
            go_simp
            exact hK.out _ _ (Below.refl _ _) rfl _ rfl
          case r2_7 =>
            intro wq hbw st  K hK
            have KQ := KW.out.trans (hbw.mono KW.out.size)
            have HXQ := HX.out.on hbw
            simp only [Act.put, List.setIfInBounds_toArray, List.set_cons_zero, List.set_cons_succ] at hK ⊢
            unfold opStep
            rw [if_pos (by rfl)]
            go_simp
            exact hK.out _ _ (Below.refl _ _) rfl _ rfl
          case r2_8 =>
            intro wq hbw st  K hK
            have KQ := KW.out.trans (hbw.mono KW.out.size)
            have HXQ := HX.out.on hbw
            simp only [Act.put, List.setIfInBounds_toArray, List.set_cons_zero, List.set_cons_succ] at hK ⊢
            unfold opStep
            rw [if_pos (by rfl)]
            obtain ⟨d0, d1, d2, d3, d4, d5, dl⟩ := blk6 HXQ.1
            go_simp
            exact hK.out _ _ (Below.refl _ _) rfl _ rfl
          case r2_9 =>
            intro wq hbw st  K hK
            have KQ := KW.out.trans (hbw.mono KW.out.size)
            have HXQ := HX.out.on hbw
            simp only [Act.put, List.setIfInBounds_toArray, List.set_cons_zero, List.set_cons_succ] at hK ⊢
            unfold opStep
            rw [if_pos (by rfl)]
            go_simp
            have hpc := rsame_any _ _ S (seeO x) wq ((HS.out.2.2).keep hbw) HXQ.2.2 (by omega) (by omega)
            rw [P2.out] at hpc
            refine hpc.mono ?_
            rintro e wz ⟨rfl, hbz⟩
            go_simp
            exact hK.out _ _ hbz rfl _ rfl
          case r2_10 =>
            intro wq hbw st  K hK
            have KQ := KW.out.trans (hbw.mono KW.out.size)
            have HXQ := HX.out.on hbw
            simp only [Act.put, List.setIfInBounds_toArray, List.set_cons_zero, List.set_cons_succ] at hK ⊢
            unfold opStep
            rw [if_pos (by rfl)]
            go_simp
            exact hK.out _ _ (Below.refl _ _) rfl _ rfl
          case r2_11 =>
            intro wq hbw st  K hK
            have KQ := KW.out.trans (hbw.mono KW.out.size)
            have HXQ := HX.out.on hbw
            simp only [Act.put, List.setIfInBounds_toArray, List.set_cons_zero, List.set_cons_succ] at hK ⊢
            unfold opStep
            rw [if_pos (by rfl)]
            go_simp
            exact hK.out _ _ (Below.refl _ _) rfl _ rfl
          case r2_12 =>
            intro wq hbw st  K hK
            have KQ := KW.out.trans (hbw.mono KW.out.size)
            have HXQ := HX.out.on hbw
            simp only [Act.put, List.setIfInBounds_toArray, List.set_cons_zero, List.set_cons_succ] at hK ⊢
            unfold opStep
            rw [if_pos (by rfl)]
            obtain ⟨d0, d1, d2, d3, d4, d5, dl⟩ := blk6 HXQ.1
            go_simp
            exact hK.out _ _ (Below.refl _ _) rfl _ rfl
          case r2_13 =>
            intro wq hbw st  K hK
            have KQ := KW.out.trans (hbw.mono KW.out.size)
            have HXQ := HX.out.on hbw
            simp only [Act.put, List.setIfInBounds_toArray, List.set_cons_zero, List.set_cons_succ] at hK ⊢
            unfold opStep
            rw [if_pos (by rfl)]
            go_simp
            have hpc := rupdate_any _ x wq HXQ.at_
            rw [P3.out] at hpc
            refine hpc.mono ?_
            rintro e wz ⟨rfl, hbz⟩
            go_simp
            exact hK.out _ _ hbz rfl _ rfl
          case r2_14 =>
            intro wq hbw st  K hK
            have KQ := KW.out.trans (hbw.mono KW.out.size)
            have HXQ := HX.out.on hbw
            simp only [Act.put, List.setIfInBounds_toArray, List.set_cons_zero, List.set_cons_succ] at hK ⊢
            unfold opStep
            rw [if_pos (by rfl)]
            go_simp
            exact hK.out _ _ (Below.refl _ _) rfl _ rfl
          case r2_15 =>
            intro wq hbw st  K hK
            have KQ := KW.out.trans (hbw.mono KW.out.size)
            have HXQ := HX.out.on hbw
            simp only [Act.put, List.setIfInBounds_toArray, List.set_cons_zero, List.set_cons_succ] at hK ⊢
            unfold opStep
            rw [if_neg (by change ¬ (false = true); exact Bool.false_ne_true)]
            exact hK.out _ _ (Below.refl _ _) rfl _ rfl
          case r2_16 =>
            intro wq hbw st  K hK
            have KQ := KW.out.trans (hbw.mono KW.out.size)
            have HXQ := HX.out.on hbw
            simp only [Act.put, List.setIfInBounds_toArray, List.set_cons_zero, List.set_cons_succ] at hK ⊢
            unfold opStep
            rw [if_neg (by change ¬ (false = true); exact Bool.false_ne_true)]
            exact hK.out _ _ (Below.refl _ _) rfl _ rfl
          case r2_17 =>
            intro wq hbw st  K hK
            have KQ := KW.out.trans (hbw.mono KW.out.size)
            have HXQ := HX.out.on hbw
            simp only [Act.put, List.setIfInBounds_toArray, List.set_cons_zero, List.set_cons_succ] at hK ⊢
            unfold opStep
            rw [if_neg (by change ¬ (false = true); exact Bool.false_ne_true)]
            exact hK.out _ _ (Below.refl _ _) rfl _ rfl
          case r2_18 =>
            intro wq hbw st  K hK
            have KQ := KW.out.trans (hbw.mono KW.out.size)
            have HXQ := HX.out.on hbw
            simp only [Act.put, List.setIfInBounds_toArray, List.set_cons_zero, List.set_cons_succ] at hK ⊢
            unfold opStep
            rw [if_neg (by change ¬ (false = true); exact Bool.false_ne_true)]
            exact hK.out _ _ (Below.refl _ _) rfl _ rfl
          case r2_19 =>
            intro wq hbw st  K hK
            have KQ := KW.out.trans (hbw.mono KW.out.size)
            have HXQ := HX.out.on hbw
            simp only [Act.put, List.setIfInBounds_toArray, List.set_cons_zero, List.set_cons_succ] at hK ⊢
            unfold opStep
            rw [if_neg (by change ¬ (false = true); exact Bool.false_ne_true)]
            exact hK.out _ _ (Below.refl _ _) rfl _ rfl
          case r2_20 =>
            intro wq hbw st  K hK
            have KQ := KW.out.trans (hbw.mono KW.out.size)
            have HXQ := HX.out.on hbw
            simp only [Act.put, List.setIfInBounds_toArray, List.set_cons_zero, List.set_cons_succ] at hK ⊢
            unfold opStep
            rw [if_neg (by change ¬ (false = true); exact Bool.false_ne_true)]
            exact hK.out _ _ (Below.refl _ _) rfl _ rfl
          case r2_21 =>
            intro wq hbw st  K hK
            have KQ := KW.out.trans (hbw.mono KW.out.size)
            have HXQ := HX.out.on hbw
            simp only [Act.put, List.setIfInBounds_toArray, List.set_cons_zero, List.set_cons_succ] at hK ⊢
            unfold opStep
            rw [if_neg (by change ¬ (false = true); exact Bool.false_ne_true)]
            exact hK.out _ _ (Below.refl _ _) rfl _ rfl
          case r2_22 =>
            intro wq hbw st  K hK
            have KQ := KW.out.trans (hbw.mono KW.out.size)
            have HXQ := HX.out.on hbw
            simp only [Act.put, List.setIfInBounds_toArray, List.set_cons_zero, List.set_cons_succ] at hK ⊢
            unfold opStep
            rw [if_pos (by rfl)]
            go_simp
            exact hK.out _ _ (Below.refl _ _) rfl _ rfl
          case r2_23 =>
            intro wq hbw st  K hK
            have KQ := KW.out.trans (hbw.mono KW.out.size)
            have HXQ := HX.out.on hbw
            simp only [Act.put, List.setIfInBounds_toArray, List.set_cons_zero, List.set_cons_succ] at hK ⊢
            unfold opStep
            rw [if_pos (by rfl)]
            go_simp
            exact hK.out _ _ (Below.refl _ _) rfl _ rfl
          case r2_fin =>
            intro wq hbw
            try simp only [FinAll]
            simp only [Act.put, List.setIfInBounds_toArray, List.set_cons_zero, List.set_cons_succ]
            have K3 := Lib.hid (KW.out.trans (hbw.mono KW.out.size))
            have HX3 := Lib.hid (HX.out.on hbw)
            clear hbw
            go_wp2
            go_roundg (C.length - (k + 1))
            case measure => have := HM.out; omega
            case rel => exact ⟨k + 1, by omega, by go_num, HX3.out, K3.out, HG.out⟩
      | false =>
        cases h3 : upO x with
        | false =>
          have P1 := Lib.hid h1
          have P3 := Lib.hid h3
          have HG := Lib.hid (HNX.out (by unfold lvCond; simp [h1, h3]))
          clear h1 h3
          go_upto_region 4 with fail
          refine region_left [.is (.agg #[.int .i64 (cliO x), .int .i64 (kindO x), .int .i64 (begO x), .int .i64 (endO x), .slice xa na ka, .slice ya ny ky]), .is (.bool false), .is (.bool false), .is undef, .is undef, .is undef, .is undef, .is undef, .is undef, .is undef, .is (.bool false), .is (.bool false), .is (.agg #[.int .i64 (cliO x), .int .i64 (kindO x), .int .i64 (begO x), .int .i64 (endO x), .slice xa na ka, .slice ya ny ky]), .is (.bool false), .is (.bool false), .is undef, .is undef, .is undef, .is undef, .is undef, .is undef, .is undef, .is (.bool false), .is (.bool false)] (by kernel_rfl) rfl (by kernel_rfl) (by kernel_rfl) (.cons ?r3_0 (.cons ?r3_1 (.cons ?r3_2 (.cons ?r3_3 (.cons ?r3_4 (.cons ?r3_5 (.cons ?r3_6 (.cons ?r3_7 (.cons ?r3_8 (.cons ?r3_9 (.cons ?r3_10 (.cons ?r3_11 (.cons ?r3_12 (.cons ?r3_13 (.cons ?r3_14 (.cons ?r3_15 (.cons ?r3_16 (.cons ?r3_17 (.cons ?r3_18 (.cons ?r3_19 (.cons ?r3_20 (.cons ?r3_21 (.cons ?r3_22 (.cons ?r3_23 .nil)))))))))))))))))))))))) ?r3_fin
          case r3_0 =>
            intro wq hbw st  K hK
            have KQ := KW.out.trans (hbw.mono KW.out.size)
            have HXQ := HX.out.on hbw
            simp only [Act.put, List.setIfInBounds_toArray, List.set_cons_zero, List.set_cons_succ] at hK ⊢
            unfold opStep
            rw [if_pos (by rfl)]
            obtain ⟨d0, d1, d2, d3, d4, d5, dl⟩ := blk6 HXQ.1
            go_simp
            exact hK.out _ _ (Below.refl _ _) rfl _ rfl
          case r3_1 =>
            intro wq hbw st  K hK
            have KQ := KW.out.trans (hbw.mono KW.out.size)
            have HXQ := HX.out.on hbw
            simp only [Act.put, List.setIfInBounds_toArray, List.set_cons_zero, List.set_cons_succ] at hK ⊢
            unfold opStep
            rw [if_pos (by rfl)]
            go_simp
            have hpc := rread_any _ x wq HXQ.at_
            rw [P1.out] at hpc
            refine hpc.mono ?_
            rintro e wz ⟨rfl, hbz⟩
            go_simp
            exact hK.out _ _ hbz rfl _ rfl
          case r3_2 =>
            intro wq hbw st  K hK
            have KQ := KW.out.trans (hbw.mono KW.out.size)
            have HXQ := HX.out.on hbw
            simp only [Act.put, List.setIfInBounds_toArray, List.set_cons_zero, List.set_cons_succ] at hK ⊢
            unfold opStep
            rw [if_pos (by rfl)]
            go_simp
            exact hK.out _ _ (Below.refl _ _) rfl _ rfl
          case r3_3 =>
            intro wq hbw st  K hK
            have KQ := KW.out.trans (hbw.mono KW.out.size)
            have HXQ := HX.out.on hbw
            simp only [Act.put, List.setIfInBounds_toArray, List.set_cons_zero, List.set_cons_succ] at hK ⊢
            unfold opStep
            rw [if_neg (by change ¬ (false = true); exact Bool.false_ne_true)]
            exact hK.out _ _ (Below.refl _ _) rfl _ rfl
          case r3_4 =>
            intro wq hbw st  K hK
            have KQ := KW.out.trans (hbw.mono KW.out.size)
            have HXQ := HX.out.on hbw
            simp only [Act.put, List.setIfInBounds_toArray, List.set_cons_zero, List.set_cons_succ] at hK ⊢
            unfold opStep
            rw [if_neg (by change ¬ (false = true); exact Bool.false_ne_true)]
            exact hK.out _ _ (Below.refl _ _) rfl _ rfl
          case r3_5 =>
            intro wq hbw st  K hK
            have KQ := KW.out.trans (hbw.mono KW.out.size)
            have HXQ := HX.out.on hbw
            simp only [Act.put, List.setIfInBounds_toArray, List.set_cons_zero, List.set_cons_succ] at hK ⊢
            unfold opStep
            rw [if_neg (by change ¬ (false = true); exact Bool.false_ne_true)]
            exact hK.out _ _ (Below.refl _ _) rfl _ rfl
          case r3_6 =>
            intro wq hbw st  K hK
            have KQ := KW.out.trans (hbw.mono KW.out.size)
            have HXQ := HX.out.on hbw
            simp only [Act.put, List.setIfInBounds_toArray, List.set_cons_zero, List.set_cons_succ] at hK ⊢
            unfold opStep
            rw [if_neg (by change ¬ (false = true); exact Bool.false_ne_true)]
            exact hK.out _ _ (Below.refl _ _) rfl _ rfl
          case r3_7 =>
            intro wq hbw st  K hK
            have KQ := KW.out.trans (hbw.mono KW.out.size)
            have HXQ := HX.out.on hbw
            simp only [Act.put, List.setIfInBounds_toArray, List.set_cons_zero, List.set_cons_succ] at hK ⊢
            unfold opStep
            rw [if_neg (by change ¬ (false = true); exact Bool.false_ne_true)]
            exact hK.out _ _ (Below.refl _ _) rfl _ rfl
          case r3_8 =>
            intro wq hbw st  K hK
            have KQ := KW.out.trans (hbw.mono KW.out.size)
            have HXQ := HX.out.on hbw
            simp only [Act.put, List.setIfInBounds_toArray, List.set_cons_zero, List.set_cons_succ] at hK ⊢
            unfold opStep
            rw [if_neg (by change ¬ (false = true); exact Bool.false_ne_true)]
            exact hK.out _ _ (Below.refl _ _) rfl _ rfl
          case r3_9 =>
            intro wq hbw st  K hK
            have KQ := KW.out.trans (hbw.mono KW.out.size)
            have HXQ := HX.out.on hbw
            simp only [Act.put, List.setIfInBounds_toArray, List.set_cons_zero, List.set_cons_succ] at hK ⊢
            unfold opStep
            rw [if_neg (by change ¬ (false = true); exact Bool.false_ne_true)]
            exact hK.out _ _ (Below.refl _ _) rfl _ rfl
          case r3_10 =>
            intro wq hbw st  K hK
            have KQ := KW.out.trans (hbw.mono KW.out.size)
            have HXQ := HX.out.on hbw
            simp only [Act.put, List.setIfInBounds_toArray, List.set_cons_zero, List.set_cons_succ] at hK ⊢
            unfold opStep
            rw [if_pos (by rfl)]
            go_simp
            exact hK.out _ _ (Below.refl _ _) rfl _ rfl
          case r3_11 =>
            intro wq hbw st  K hK
            have KQ := KW.out.trans (hbw.mono KW.out.size)
            have HXQ := HX.out.on hbw
            simp only [Act.put, List.setIfInBounds_toArray, List.set_cons_zero, List.set_cons_succ] at hK ⊢
            unfold opStep
            rw [if_pos (by rfl)]
            go_simp
            exact hK.out _ _ (Below.refl _ _) rfl _ rfl
          case r3_12 =>
            intro wq hbw st  K hK
            have KQ := KW.out.trans (hbw.mono KW.out.size)
            have HXQ := HX.out.on hbw
            simp only [Act.put, List.setIfInBounds_toArray, List.set_cons_zero, List.set_cons_succ] at hK ⊢
            unfold opStep
            rw [if_pos (by rfl)]
            obtain ⟨d0, d1, d2, d3, d4, d5, dl⟩ := blk6 HXQ.1
            go_simp
            exact hK.out _ _ (Below.refl _ _) rfl _ rfl
          case r3_13 =>
            intro wq hbw st  K hK
            have KQ := KW.out.trans (hbw.mono KW.out.size)
            have HXQ := HX.out.on hbw
            simp only [Act.put, List.setIfInBounds_toArray, List.set_cons_zero, List.set_cons_succ] at hK ⊢
            unfold opStep
            rw [if_pos (by rfl)]
            go_simp
            have hpc := rupdate_any _ x wq HXQ.at_
            rw [P3.out] at hpc
            refine hpc.mono ?_
            rintro e wz ⟨rfl, hbz⟩
            go_simp
            exact hK.out _ _ hbz rfl _ rfl
          case r3_14 =>
            intro wq hbw st  K hK
            have KQ := KW.out.trans (hbw.mono KW.out.size)
            have HXQ := HX.out.on hbw
            simp only [Act.put, List.setIfInBounds_toArray, List.set_cons_zero, List.set_cons_succ] at hK ⊢
            unfold opStep
            rw [if_pos (by rfl)]
            go_simp
            exact hK.out _ _ (Below.refl _ _) rfl _ rfl
          case r3_15 =>
            intro wq hbw st  K hK
            have KQ := KW.out.trans (hbw.mono KW.out.size)
            have HXQ := HX.out.on hbw
            simp only [Act.put, List.setIfInBounds_toArray, List.set_cons_zero, List.set_cons_succ] at hK ⊢
            unfold opStep
            rw [if_neg (by change ¬ (false = true); exact Bool.false_ne_true)]
            exact hK.out _ _ (Below.refl _ _) rfl _ rfl
          case r3_16 =>
            intro wq hbw st  K hK
            have KQ := KW.out.trans (hbw.mono KW.out.size)
            have HXQ := HX.out.on hbw
            simp only [Act.put, List.setIfInBounds_toArray, List.set_cons_zero, List.set_cons_succ] at hK ⊢
            unfold opStep
            rw [if_neg (by change ¬ (false = true); exact Bool.false_ne_true)]
            exact hK.out _ _ (Below.refl _ _) rfl _ rfl
          case r3_17 =>
            intro wq hbw st  K hK
            have KQ := KW.out.trans (hbw.mono KW.out.size)
            have HXQ := HX.out.on hbw
            simp only [Act.put, List.setIfInBounds_toArray, List.set_cons_zero, List.set_cons_succ] at hK ⊢
            unfold opStep
            rw [if_neg (by change ¬ (false = true); exact Bool.false_ne_true)]
            exact hK.out _ _ (Below.refl _ _) rfl _ rfl
          case r3_18 =>
            intro wq hbw st  K hK
            have KQ := KW.out.trans (hbw.mono KW.out.size)
            have HXQ := HX.out.on hbw
            simp only [Act.put, List.setIfInBounds_toArray, List.set_cons_zero, List.set_cons_succ] at hK ⊢
            unfold opStep
            rw [if_neg (by change ¬ (false = true); exact Bool.false_ne_true)]
            exact hK.out _ _ (Below.refl _ _) rfl _ rfl
          case r3_19 =>
            intro wq hbw st  K hK
            have KQ := KW.out.trans (hbw.mono KW.out.size)
            have HXQ := HX.out.on hbw
            simp only [Act.put, List.setIfInBounds_toArray, List.set_cons_zero, List.set_cons_succ] at hK ⊢
            unfold opStep
            rw [if_neg (by change ¬ (false = true); exact Bool.false_ne_true)]
            exact hK.out _ _ (Below.refl _ _) rfl _ rfl
          case r3_20 =>
            intro wq hbw st  K hK
            have KQ := KW.out.trans (hbw.mono KW.out.size)
            have HXQ := HX.out.on hbw
            simp only [Act.put, List.setIfInBounds_toArray, List.set_cons_zero, List.set_cons_succ] at hK ⊢
            unfold opStep
            rw [if_neg (by change ¬ (false = true); exact Bool.false_ne_true)]
            exact hK.out _ _ (Below.refl _ _) rfl _ rfl
          case r3_21 =>
            intro wq hbw st  K hK
            have KQ := KW.out.trans (hbw.mono KW.out.size)
            have HXQ := HX.out.on hbw
            simp only [Act.put, List.setIfInBounds_toArray, List.set_cons_zero, List.set_cons_succ] at hK ⊢
            unfold opStep
            rw [if_neg (by change ¬ (false = true); exact Bool.false_ne_true)]
            exact hK.out _ _ (Below.refl _ _) rfl _ rfl
          case r3_22 =>
            intro wq hbw st  K hK
            have KQ := KW.out.trans (hbw.mono KW.out.size)
            have HXQ := HX.out.on hbw
            simp only [Act.put, List.setIfInBounds_toArray, List.set_cons_zero, List.set_cons_succ] at hK ⊢
            unfold opStep
            rw [if_pos (by rfl)]
            go_simp
            exact hK.out _ _ (Below.refl _ _) rfl _ rfl
          case r3_23 =>
            intro wq hbw st  K hK
            have KQ := KW.out.trans (hbw.mono KW.out.size)
            have HXQ := HX.out.on hbw
            simp only [Act.put, List.setIfInBounds_toArray, List.set_cons_zero, List.set_cons_succ] at hK ⊢
            unfold opStep
            rw [if_pos (by rfl)]
            go_simp
            exact hK.out _ _ (Below.refl _ _) rfl _ rfl
          case r3_fin =>
            intro wq hbw
            try simp only [FinAll]
            simp only [Act.put, List.setIfInBounds_toArray, List.set_cons_zero, List.set_cons_succ]
            have K3 := Lib.hid (KW.out.trans (hbw.mono KW.out.size))
            have HX3 := Lib.hid (HX.out.on hbw)
            clear hbw
            go_wp2
            go_roundg (C.length - (k + 1))
            case measure => have := HM.out; omega
            case rel => exact ⟨k + 1, by omega, by go_num, HX3.out, K3.out, HG.out⟩
        | true =>
          cases h4 : subB (addO x) S with
          | false =>
            have P1 := Lib.hid h1
            have P3 := Lib.hid h3
            have P4 := Lib.hid h4
            have HG := Lib.hid (HNX.out (by unfold lvCond; simp [h1, h3, h4]))
            clear h1 h3 h4
            go_upto_region 4 with fail
            refine region_left [.is (.agg #[.int .i64 (cliO x), .int .i64 (kindO x), .int .i64 (begO x), .int .i64 (endO x), .slice xa na ka, .slice ya ny ky]), .is (.bool false), .is (.bool false), .is undef, .is undef, .is undef, .is undef, .is undef, .is undef, .is undef, .is (.bool false), .is (.bool false), .is (.agg #[.int .i64 (cliO x), .int .i64 (kindO x), .int .i64 (begO x), .int .i64 (endO x), .slice xa na ka, .slice ya ny ky]), .is (.bool true), .is (.bool true), .is (.pointer (some ⟨W.heap.size, 4, none⟩)), .is (.slice xa na ka), .is (.slice (some ⟨g, off, none⟩) C.length cc), .is (.int .i64 (k : Int)), .is (.pointer (some ⟨g, off + k, none⟩)), .is (.slice sa S.length sc), .is (.bool false), .is (.bool false), .is (.bool false)] (by kernel_rfl) rfl (by kernel_rfl) (by kernel_rfl) (.cons ?r4_0 (.cons ?r4_1 (.cons ?r4_2 (.cons ?r4_3 (.cons ?r4_4 (.cons ?r4_5 (.cons ?r4_6 (.cons ?r4_7 (.cons ?r4_8 (.cons ?r4_9 (.cons ?r4_10 (.cons ?r4_11 (.cons ?r4_12 (.cons ?r4_13 (.cons ?r4_14 (.cons ?r4_15 (.cons ?r4_16 (.cons ?r4_17 (.cons ?r4_18 (.cons ?r4_19 (.cons ?r4_20 (.cons ?r4_21 (.cons ?r4_22 (.cons ?r4_23 .nil)))))))))))))))))))))))) ?r4_fin
            case r4_0 =>
              intro wq hbw st  K hK
              have KQ := KW.out.trans (hbw.mono KW.out.size)
              have HXQ := HX.out.on hbw
              simp only [Act.put, List.setIfInBounds_toArray, List.set_cons_zero, List.set_cons_succ] at hK ⊢
              unfold opStep
              rw [if_pos (by rfl)]
              obtain ⟨d0, d1, d2, d3, d4, d5, dl⟩ := blk6 HXQ.1
              go_simp
              exact hK.out _ _ (Below.refl _ _) rfl _ rfl
            case r4_1 =>
              intro wq hbw st  K hK
              have KQ := KW.out.trans (hbw.mono KW.out.size)
              have HXQ := HX.out.on hbw
              simp only [Act.put, List.setIfInBounds_toArray, List.set_cons_zero, List.set_cons_succ] at hK ⊢
              unfold opStep
              rw [if_pos (by rfl)]
              go_simp
              have hpc := rread_any _ x wq HXQ.at_
              rw [P1.out] at hpc
              refine hpc.mono ?_
              rintro e wz ⟨rfl, hbz⟩
              go_simp
              exact hK.out _ _ hbz rfl _ rfl
            case r4_2 =>
              intro wq hbw st  K hK
              have KQ := KW.out.trans (hbw.mono KW.out.size)
              have HXQ := HX.out.on hbw
              simp only [Act.put, List.setIfInBounds_toArray, List.set_cons_zero, List.set_cons_succ] at hK ⊢
              unfold opStep
              rw [if_pos (by rfl)]
              go_simp
              exact hK.out _ _ (Below.refl _ _) rfl _ rfl
            case r4_3 =>
              intro wq hbw st  K hK
              have KQ := KW.out.trans (hbw.mono KW.out.size)
              have HXQ := HX.out.on hbw
              simp only [Act.put, List.setIfInBounds_toArray, List.set_cons_zero, List.set_cons_succ] at hK ⊢
              unfold opStep
              rw [if_neg (by change ¬ (false = true); exact Bool.false_ne_true)]
              exact hK.out _ _ (Below.refl _ _) rfl _ rfl
            case r4_4 =>
              intro wq hbw st  K hK
              have KQ := KW.out.trans (hbw.mono KW.out.size)
              have HXQ := HX.out.on hbw
              simp only [Act.put, List.setIfInBounds_toArray, List.set_cons_zero, List.set_cons_succ] at hK ⊢
              unfold opStep
              rw [if_neg (by change ¬ (false = true); exact Bool.false_ne_true)]
              exact hK.out _ _ (Below.refl _ _) rfl _ rfl
            case r4_5 =>
              intro wq hbw st  K hK
              have KQ := KW.out.trans (hbw.mono KW.out.size)
              have HXQ := HX.out.on hbw
              simp only [Act.put, List.setIfInBounds_toArray, List.set_cons_zero, List.set_cons_succ] at hK ⊢
              unfold opStep
              rw [if_neg (by change ¬ (false = true); exact Bool.false_ne_true)]
              exact hK.out _ _ (Below.refl _ _) rfl _ rfl
            case r4_6 =>
              intro wq hbw st  K hK
              have KQ := KW.out.trans (hbw.mono KW.out.size)
              have HXQ := HX.out.on hbw
              simp only [Act.put, List.setIfInBounds_toArray, List.set_cons_zero, List.set_cons_succ] at hK ⊢
              unfold opStep
              rw [if_neg (by change ¬ (false = true); exact Bool.false_ne_true)]
              exact hK.out _ _ (Below.refl _ _) rfl _ rfl
            case r4_7 =>
              intro wq hbw st  K hK
              have KQ := KW.out.trans (hbw.mono KW.out.size)
              have HXQ := HX.out.on hbw
              simp only [Act.put, List.setIfInBounds_toArray, List.set_cons_zero, List.set_cons_succ] at hK ⊢
              unfold opStep
              rw [if_neg (by change ¬ (false = true); exact Bool.false_ne_true)]
              exact hK.out _ _ (Below.refl _ _) rfl _ rfl
            case r4_8 =>
              intro wq hbw st  K hK
              have KQ := KW.out.trans (hbw.mono KW.out.size)
              have HXQ := HX.out.on hbw
              simp only [Act.put, List.setIfInBounds_toArray, List.set_cons_zero, List.set_cons_succ] at hK ⊢
              unfold opStep
              rw [if_neg (by change ¬ (false = true); exact Bool.false_ne_true)]
              exact hK.out _ _ (Below.refl _ _) rfl _ rfl
            case r4_9 =>
              intro wq hbw st  K hK
              have KQ := KW.out.trans (hbw.mono KW.out.size)
              have HXQ := HX.out.on hbw
              simp only [Act.put, List.setIfInBounds_toArray, List.set_cons_zero, List.set_cons_succ] at hK ⊢
              unfold opStep
              rw [if_neg (by change ¬ (false = true); exact Bool.false_ne_true)]
              exact hK.out _ _ (Below.refl _ _) rfl _ rfl
            case r4_10 =>
              intro wq hbw st  K hK
              have KQ := KW.out.trans (hbw.mono KW.out.size)
              have HXQ := HX.out.on hbw
              simp only [Act.put, List.setIfInBounds_toArray, List.set_cons_zero, List.set_cons_succ] at hK ⊢
              unfold opStep
              rw [if_pos (by rfl)]
              go_simp
              exact hK.out _ _ (Below.refl _ _) rfl _ rfl
            case r4_11 =>
              intro wq hbw st  K hK
              have KQ := KW.out.trans (hbw.mono KW.out.size)
              have HXQ := HX.out.on hbw
              simp only [Act.put, List.setIfInBounds_toArray, List.set_cons_zero, List.set_cons_succ] at hK ⊢
              unfold opStep
              rw [if_pos (by rfl)]
              go_simp
              exact hK.out _ _ (Below.refl _ _) rfl _ rfl
            case r4_12 =>
              intro wq hbw st  K hK
              have KQ := KW.out.trans (hbw.mono KW.out.size)
              have HXQ := HX.out.on hbw
              simp only [Act.put, List.setIfInBounds_toArray, List.set_cons_zero, List.set_cons_succ] at hK ⊢
              unfold opStep
              rw [if_pos (by rfl)]
              obtain ⟨d0, d1, d2, d3, d4, d5, dl⟩ := blk6 HXQ.1
              go_simp
              exact hK.out _ _ (Below.refl _ _) rfl _ rfl
            case r4_13 =>
              intro wq hbw st  K hK
              have KQ := KW.out.trans (hbw.mono KW.out.size)
              have HXQ := HX.out.on hbw
              simp only [Act.put, List.setIfInBounds_toArray, List.set_cons_zero, List.set_cons_succ] at hK ⊢
              unfold opStep
              rw [if_pos (by rfl)]
              go_simp
              have hpc := rupdate_any _ x wq HXQ.at_
              rw [P3.out] at hpc
              refine hpc.mono ?_
              rintro e wz ⟨rfl, hbz⟩
              go_simp
              exact hK.out _ _ hbz rfl _ rfl
            case r4_14 =>
              intro wq hbw st  K hK
              have KQ := KW.out.trans (hbw.mono KW.out.size)
              have HXQ := HX.out.on hbw
              simp only [Act.put, List.setIfInBounds_toArray, List.set_cons_zero, List.set_cons_succ] at hK ⊢
              unfold opStep
              rw [if_pos (by rfl)]
              go_simp
              exact hK.out _ _ (Below.refl _ _) rfl _ rfl
            case r4_15 =>
              intro wq hbw st  K hK
              have KQ := KW.out.trans (hbw.mono KW.out.size)
              have HXQ := HX.out.on hbw
              simp only [Act.put, List.setIfInBounds_toArray, List.set_cons_zero, List.set_cons_succ] at hK ⊢
              unfold opStep
              rw [if_pos (by rfl)]
              go_simp
              exact hK.out _ _ (Below.refl _ _) rfl _ rfl
            case r4_16 =>
              intro wq hbw st  K hK
              have KQ := KW.out.trans (hbw.mono KW.out.size)
              have HXQ := HX.out.on hbw
              simp only [Act.put, List.setIfInBounds_toArray, List.set_cons_zero, List.set_cons_succ] at hK ⊢
              unfold opStep
              rw [if_pos (by rfl)]
              obtain ⟨d0, d1, d2, d3, d4, d5, dl⟩ := blk6 HXQ.1
              go_simp
              exact hK.out _ _ (Below.refl _ _) rfl _ rfl
            case r4_17 =>
              intro wq hbw st  K hK
              have KQ := KW.out.trans (hbw.mono KW.out.size)
              have HXQ := HX.out.on hbw
              simp only [Act.put, List.setIfInBounds_toArray, List.set_cons_zero, List.set_cons_succ] at hK ⊢
              unfold opStep
              rw [if_pos (by rfl)]
              go_simp
              exact hK.out _ _ (Below.refl _ _) rfl _ rfl
            case r4_18 =>
              intro wq hbw st  K hK
              have KQ := KW.out.trans (hbw.mono KW.out.size)
              have HXQ := HX.out.on hbw
              simp only [Act.put, List.setIfInBounds_toArray, List.set_cons_zero, List.set_cons_succ] at hK ⊢
              unfold opStep
              rw [if_pos (by rfl)]
              go_simp
              exact hK.out _ _ (Below.refl _ _) rfl _ rfl
            case r4_19 =>
              intro wq hbw st  K hK
              have KQ := KW.out.trans (hbw.mono KW.out.size)
              have HXQ := HX.out.on hbw
              simp only [Act.put, List.setIfInBounds_toArray, List.set_cons_zero, List.set_cons_succ] at hK ⊢
              unfold opStep
              rw [if_pos (by rfl)]
              go_simp
              exact hK.out _ _ (Below.refl _ _) rfl _ rfl
            case r4_20 =>
              intro wq hbw st  K hK
              have KQ := KW.out.trans (hbw.mono KW.out.size)
              have HXQ := HX.out.on hbw
              simp only [Act.put, List.setIfInBounds_toArray, List.set_cons_zero, List.set_cons_succ] at hK ⊢
              unfold opStep
              rw [if_pos (by rfl)]
              have cs := (hbw.cell (p := ⟨g, off + k, none⟩) HS.out.1).trans HS.out.2.1
              go_simp
              exact hK.out _ _ (Below.refl _ _) rfl _ rfl
            case r4_21 =>
              intro wq hbw st  K hK
              have KQ := KW.out.trans (hbw.mono KW.out.size)
              have HXQ := HX.out.on hbw
              simp only [Act.put, List.setIfInBounds_toArray, List.set_cons_zero, List.set_cons_succ] at hK ⊢
              unfold opStep
              rw [if_pos (by rfl)]
              go_simp
              have hpc := rsub_any _ _ (addO x) S wq HXQ.2.1 ((HS.out.2.2).keep hbw) (by omega)
              rw [P4.out] at hpc
              refine hpc.mono ?_
              rintro e wz ⟨rfl, hbz⟩
              go_simp
              exact hK.out _ _ hbz rfl _ rfl
            case r4_22 =>
              intro wq hbw st  K hK
              have KQ := KW.out.trans (hbw.mono KW.out.size)
              have HXQ := HX.out.on hbw
              simp only [Act.put, List.setIfInBounds_toArray, List.set_cons_zero, List.set_cons_succ] at hK ⊢
              unfold opStep
              rw [if_pos (by rfl)]
              go_simp
              exact hK.out _ _ (Below.refl _ _) rfl _ rfl
            case r4_23 =>
              intro wq hbw st  K hK
              have KQ := KW.out.trans (hbw.mono KW.out.size)
              have HXQ := HX.out.on hbw
              simp only [Act.put, List.setIfInBounds_toArray, List.set_cons_zero, List.set_cons_succ] at hK ⊢
              unfold opStep
              rw [if_pos (by rfl)]
              go_simp
              exact hK.out _ _ (Below.refl _ _) rfl _ rfl
            case r4_fin =>
              intro wq hbw
              try simp only [FinAll]
              simp only [Act.put, List.setIfInBounds_toArray, List.set_cons_zero, List.set_cons_succ]
              have K3 := Lib.hid (KW.out.trans (hbw.mono KW.out.size))
              have HX3 := Lib.hid (HX.out.on hbw)
              clear hbw
              go_wp2
              go_roundg (C.length - (k + 1))
              case measure => have := HM.out; omega
              case rel => exact ⟨k + 1, by omega, by go_num, HX3.out, K3.out, HG.out⟩
          | true =>
            have P1 := Lib.hid h1
            have P3 := Lib.hid h3
            have P4 := Lib.hid h4
            have HE := Lib.hid (HYE.out (by unfold lvCond; simp [h1, h3, h4]))
            clear h1 h3 h4
            go_upto_region 4 with fail
            refine region_left [.is (.agg #[.int .i64 (cliO x), .int .i64 (kindO x), .int .i64 (begO x), .int .i64 (endO x), .slice xa na ka, .slice ya ny ky]), .is (.bool false), .is (.bool false), .is undef, .is undef, .is undef, .is undef, .is undef, .is undef, .is undef, .is (.bool false), .is (.bool false), .is (.agg #[.int .i64 (cliO x), .int .i64 (kindO x), .int .i64 (begO x), .int .i64 (endO x), .slice xa na ka, .slice ya ny ky]), .is (.bool true), .is (.bool true), .is (.pointer (some ⟨W.heap.size, 4, none⟩)), .is (.slice xa na ka), .is (.slice (some ⟨g, off, none⟩) C.length cc), .is (.int .i64 (k : Int)), .is (.pointer (some ⟨g, off + k, none⟩)), .is (.slice sa S.length sc), .is (.bool true), .is (.bool true), .is (.bool true)] (by kernel_rfl) rfl (by kernel_rfl) (by kernel_rfl) (.cons ?r5_0 (.cons ?r5_1 (.cons ?r5_2 (.cons ?r5_3 (.cons ?r5_4 (.cons ?r5_5 (.cons ?r5_6 (.cons ?r5_7 (.cons ?r5_8 (.cons ?r5_9 (.cons ?r5_10 (.cons ?r5_11 (.cons ?r5_12 (.cons ?r5_13 (.cons ?r5_14 (.cons ?r5_15 (.cons ?r5_16 (.cons ?r5_17 (.cons ?r5_18 (.cons ?r5_19 (.cons ?r5_20 (.cons ?r5_21 (.cons ?r5_22 (.cons ?r5_23 .nil)))))))))))))))))))))))) ?r5_fin
            case r5_0 =>
              intro wq hbw st  K hK
              have KQ := KW.out.trans (hbw.mono KW.out.size)
              have HXQ := HX.out.on hbw
              simp only [Act.put, List.setIfInBounds_toArray, List.set_cons_zero, List.set_cons_succ] at hK ⊢
              unfold opStep
              rw [if_pos (by rfl)]
              obtain ⟨d0, d1, d2, d3, d4, d5, dl⟩ := blk6 HXQ.1
              go_simp
              exact hK.out _ _ (Below.refl _ _) rfl _ rfl
            case r5_1 =>
              intro wq hbw st  K hK
              have KQ := KW.out.trans (hbw.mono KW.out.size)
              have HXQ := HX.out.on hbw
              simp only [Act.put, List.setIfInBounds_toArray, List.set_cons_zero, List.set_cons_succ] at hK ⊢
              unfold opStep
              rw [if_pos (by rfl)]
              go_simp
              have hpc := rread_any _ x wq HXQ.at_
              rw [P1.out] at hpc
              refine hpc.mono ?_
              rintro e wz ⟨rfl, hbz⟩
              go_simp
              exact hK.out _ _ hbz rfl _ rfl
            case r5_2 =>
              intro wq hbw st  K hK
              have KQ := KW.out.trans (hbw.mono KW.out.size)
              have HXQ := HX.out.on hbw
              simp only [Act.put, List.setIfInBounds_toArray, List.set_cons_zero, List.set_cons_succ] at hK ⊢
              unfold opStep
              rw [if_pos (by rfl)]
              go_simp
              exact hK.out _ _ (Below.refl _ _) rfl _ rfl
            case r5_3 =>
              intro wq hbw st  K hK
              have KQ := KW.out.trans (hbw.mono KW.out.size)
              have HXQ := HX.out.on hbw
              simp only [Act.put, List.setIfInBounds_toArray, List.set_cons_zero, List.set_cons_succ] at hK ⊢
              unfold opStep
              rw [if_neg (by change ¬ (false = true); exact Bool.false_ne_true)]
              exact hK.out _ _ (Below.refl _ _) rfl _ rfl
            case r5_4 =>
              intro wq hbw st  K hK
              have KQ := KW.out.trans (hbw.mono KW.out.size)
              have HXQ := HX.out.on hbw
              simp only [Act.put, List.setIfInBounds_toArray, List.set_cons_zero, List.set_cons_succ] at hK ⊢
              unfold opStep
              rw [if_neg (by change ¬ (false = true); exact Bool.false_ne_true)]
              exact hK.out _ _ (Below.refl _ _) rfl _ rfl
            case r5_5 =>
              intro wq hbw st  K hK
              have KQ := KW.out.trans (hbw.mono KW.out.size)
              have HXQ := HX.out.on hbw
              simp only [Act.put, List.setIfInBounds_toArray, List.set_cons_zero, List.set_cons_succ] at hK ⊢
              unfold opStep
              rw [if_neg (by change ¬ (false = true); exact Bool.false_ne_true)]
              exact hK.out _ _ (Below.refl _ _) rfl _ rfl
            case r5_6 =>
              intro wq hbw st  K hK
              have KQ := KW.out.trans (hbw.mono KW.out.size)
              have HXQ := HX.out.on hbw
              simp only [Act.put, List.setIfInBounds_toArray, List.set_cons_zero, List.set_cons_succ] at hK ⊢
              unfold opStep
              rw [if_neg (by change ¬ (false = true); exact Bool.false_ne_true)]
              exact hK.out _ _ (Below.refl _ _) rfl _ rfl
            case r5_7 =>
              intro wq hbw st  K hK
              have KQ := KW.out.trans (hbw.mono KW.out.size)
              have HXQ := HX.out.on hbw
              simp only [Act.put, List.setIfInBounds_toArray, List.set_cons_zero, List.set_cons_succ] at hK ⊢
              unfold opStep
              rw [if_neg (by change ¬ (false = true); exact Bool.false_ne_true)]
              exact hK.out _ _ (Below.refl _ _) rfl _ rfl
            case r5_8 =>
              intro wq hbw st  K hK
              have KQ := KW.out.trans (hbw.mono KW.out.size)
              have HXQ := HX.out.on hbw
              simp only [Act.put, List.setIfInBounds_toArray, List.set_cons_zero, List.set_cons_succ] at hK ⊢
              unfold opStep
              rw [if_neg (by change ¬ (false = true); exact Bool.false_ne_true)]
              exact hK.out _ _ (Below.refl _ _) rfl _ rfl
            case r5_9 =>
              intro wq hbw st  K hK
              have KQ := KW.out.trans (hbw.mono KW.out.size)
              have HXQ := HX.out.on hbw
              simp only [Act.put, List.setIfInBounds_toArray, List.set_cons_zero, List.set_cons_succ] at hK ⊢
              unfold opStep
              rw [if_neg (by change ¬ (false = true); exact Bool.false_ne_true)]
              exact hK.out _ _ (Below.refl _ _) rfl _ rfl
            case r5_10 =>
              intro wq hbw st  K hK
              have KQ := KW.out.trans (hbw.mono KW.out.size)
              have HXQ := HX.out.on hbw
              simp only [Act.put, List.setIfInBounds_toArray, List.set_cons_zero, List.set_cons_succ] at hK ⊢
              unfold opStep
              rw [if_pos (by rfl)]
              go_simp
              exact hK.out _ _ (Below.refl _ _) rfl _ rfl
            case r5_11 =>
              intro wq hbw st  K hK
              have KQ := KW.out.trans (hbw.mono KW.out.size)
              have HXQ := HX.out.on hbw
              simp only [Act.put, List.setIfInBounds_toArray, List.set_cons_zero, List.set_cons_succ] at hK ⊢
              unfold opStep
              rw [if_pos (by rfl)]
              go_simp
              exact hK.out _ _ (Below.refl _ _) rfl _ rfl
            case r5_12 =>
              intro wq hbw st  K hK
              have KQ := KW.out.trans (hbw.mono KW.out.size)
              have HXQ := HX.out.on hbw
              simp only [Act.put, List.setIfInBounds_toArray, List.set_cons_zero, List.set_cons_succ] at hK ⊢
              unfold opStep
              rw [if_pos (by rfl)]
              obtain ⟨d0, d1, d2, d3, d4, d5, dl⟩ := blk6 HXQ.1
              go_simp
              exact hK.out _ _ (Below.refl _ _) rfl _ rfl
            case r5_13 =>
              intro wq hbw st  K hK
              have KQ := KW.out.trans (hbw.mono KW.out.size)
              have HXQ := HX.out.on hbw
              simp only [Act.put, List.setIfInBounds_toArray, List.set_cons_zero, List.set_cons_succ] at hK ⊢
              unfold opStep
              rw [if_pos (by rfl)]
              go_simp
              have hpc := rupdate_any _ x wq HXQ.at_
              rw [P3.out] at hpc
              refine hpc.mono ?_
              rintro e wz ⟨rfl, hbz⟩
              go_simp
              exact hK.out _ _ hbz rfl _ rfl
            case r5_14 =>
              intro wq hbw st  K hK
              have KQ := KW.out.trans (hbw.mono KW.out.size)
              have HXQ := HX.out.on hbw
              simp only [Act.put, List.setIfInBounds_toArray, List.set_cons_zero, List.set_cons_succ] at hK ⊢
              unfold opStep
              rw [if_pos (by rfl)]
              go_simp
              exact hK.out _ _ (Below.refl _ _) rfl _ rfl
            case r5_15 =>
              intro wq hbw st  K hK
              have KQ := KW.out.trans (hbw.mono KW.out.size)
              have HXQ := HX.out.on hbw
              simp only [Act.put, List.setIfInBounds_toArray, List.set_cons_zero, List.set_cons_succ] at hK ⊢
              unfold opStep
              rw [if_pos (by rfl)]
              go_simp
              exact hK.out _ _ (Below.refl _ _) rfl _ rfl
            case r5_16 =>
              intro wq hbw st  K hK
              have KQ := KW.out.trans (hbw.mono KW.out.size)
              have HXQ := HX.out.on hbw
              simp only [Act.put, List.setIfInBounds_toArray, List.set_cons_zero, List.set_cons_succ] at hK ⊢
              unfold opStep
              rw [if_pos (by rfl)]
              obtain ⟨d0, d1, d2, d3, d4, d5, dl⟩ := blk6 HXQ.1
              go_simp
              exact hK.out _ _ (Below.refl _ _) rfl _ rfl
            case r5_17 =>
              intro wq hbw st  K hK
              have KQ := KW.out.trans (hbw.mono KW.out.size)
              have HXQ := HX.out.on hbw
              simp only [Act.put, List.setIfInBounds_toArray, List.set_cons_zero, List.set_cons_succ] at hK ⊢
              unfold opStep
              rw [if_pos (by rfl)]
              go_simp
              exact hK.out _ _ (Below.refl _ _) rfl _ rfl
            case r5_18 =>
              intro wq hbw st  K hK
              have KQ := KW.out.trans (hbw.mono KW.out.size)
              have HXQ := HX.out.on hbw
              simp only [Act.put, List.setIfInBounds_toArray, List.set_cons_zero, List.set_cons_succ] at hK ⊢
              unfold opStep
              rw [if_pos (by rfl)]
              go_simp
              exact hK.out _ _ (Below.refl _ _) rfl _ rfl
            case r5_19 =>
              intro wq hbw st  K hK
              have KQ := KW.out.trans (hbw.mono KW.out.size)
              have HXQ := HX.out.on hbw
              simp only [Act.put, List.setIfInBounds_toArray, List.set_cons_zero, List.set_cons_succ] at hK ⊢
              unfold opStep
              rw [if_pos (by rfl)]
              go_simp
              exact hK.out _ _ (Below.refl _ _) rfl _ rfl
            case r5_20 =>
              intro wq hbw st  K hK
              have KQ := KW.out.trans (hbw.mono KW.out.size)
              have HXQ := HX.out.on hbw
              simp only [Act.put, List.setIfInBounds_toArray, List.set_cons_zero, List.set_cons_succ] at hK ⊢
              unfold opStep
              rw [if_pos (by rfl)]
              have cs := (hbw.cell (p := ⟨g, off + k, none⟩) HS.out.1).trans HS.out.2.1
              go_simp
              exact hK.out _ _ (Below.refl _ _) rfl _ rfl
            case r5_21 =>
              intro wq hbw st  K hK
              have KQ := KW.out.trans (hbw.mono KW.out.size)
              have HXQ := HX.out.on hbw
              simp only [Act.put, List.setIfInBounds_toArray, List.set_cons_zero, List.set_cons_succ] at hK ⊢
              unfold opStep
              rw [if_pos (by rfl)]
              go_simp
              have hpc := rsub_any _ _ (addO x) S wq HXQ.2.1 ((HS.out.2.2).keep hbw) (by omega)
              rw [P4.out] at hpc
              refine hpc.mono ?_
              rintro e wz ⟨rfl, hbz⟩
              go_simp
              exact hK.out _ _ hbz rfl _ rfl
            case r5_22 =>
              intro wq hbw st  K hK
              have KQ := KW.out.trans (hbw.mono KW.out.size)
              have HXQ := HX.out.on hbw
              simp only [Act.put, List.setIfInBounds_toArray, List.set_cons_zero, List.set_cons_succ] at hK ⊢
              unfold opStep
              rw [if_pos (by rfl)]
              go_simp
              exact hK.out _ _ (Below.refl _ _) rfl _ rfl
            case r5_23 =>
              intro wq hbw st  K hK
              have KQ := KW.out.trans (hbw.mono KW.out.size)
              have HXQ := HX.out.on hbw
              simp only [Act.put, List.setIfInBounds_toArray, List.set_cons_zero, List.set_cons_succ] at hK ⊢
              unfold opStep
              rw [if_pos (by rfl)]
              go_simp
              exact hK.out _ _ (Below.refl _ _) rfl _ rfl
            case r5_fin =>
              intro wq hbw
              try simp only [FinAll]
              simp only [Act.put, List.setIfInBounds_toArray, List.set_cons_zero, List.set_cons_succ]
              have K3 := Lib.hid (KW.out.trans (hbw.mono KW.out.size))
              clear hbw
              go_wp2
              go_ret2
              unfold LevMade
              rw [HE.out.1, HE.out.2]
              exact ⟨rfl, K3.out⟩
    · have HNO := Lib.hid (lv_none (o := x) fun j hj => HALL.out j hj (by omega))
      obtain ⟨aq, cq, hv, _, _, _⟩ := HC.out.on KW.out
      clear hv
      cases h3 : upO x with
      | false =>
        have P3 := Lib.hid h3
        have HE : Hid (lvN C x = C.length ∧ lvOk C x = false) := Lib.hid ⟨HNO.out.1, by rw [HNO.out.2]; simp [h3]⟩
        clear h3
        go_upto_region 6 with fail
        refine region_left [.is (.slice ca C.length cc), .is (.int .i64 (C.length : Int)), .is (.agg #[.int .i64 (cliO x), .int .i64 (kindO x), .int .i64 (begO x), .int .i64 (endO x), .slice xa na ka, .slice ya ny ky]), .is (.bool false), .is (.bool false), .is undef, .is undef, .is undef, .is (.bool false), .is (.int .i64 (C.length : Int)), .is (.bool false)] (by kernel_rfl) rfl (by kernel_rfl) (by kernel_rfl) (.cons ?r6_0 (.cons ?r6_1 (.cons ?r6_2 (.cons ?r6_3 (.cons ?r6_4 (.cons ?r6_5 (.cons ?r6_6 (.cons ?r6_7 (.cons ?r6_8 (.cons ?r6_9 (.cons ?r6_10 .nil))))))))))) ?r6_fin
        case r6_0 =>
          intro wq hbw st  K hK
          have KQ := KW.out.trans (hbw.mono KW.out.size)
          have HXQ := HX.out.on hbw
          simp only [Act.put, List.setIfInBounds_toArray, List.set_cons_zero, List.set_cons_succ] at hK ⊢
          unfold opStep
          rw [if_pos (by rfl)]
          go_simp
          exact hK.out _ _ (Below.refl _ _) rfl _ rfl
        case r6_1 =>
          intro wq hbw st  K hK
          have KQ := KW.out.trans (hbw.mono KW.out.size)
          have HXQ := HX.out.on hbw
          simp only [Act.put, List.setIfInBounds_toArray, List.set_cons_zero, List.set_cons_succ] at hK ⊢
          unfold opStep
          rw [if_pos (by rfl)]
          go_simp
          exact hK.out _ _ (Below.refl _ _) rfl _ rfl
        case r6_2 =>
          intro wq hbw st  K hK
          have KQ := KW.out.trans (hbw.mono KW.out.size)
          have HXQ := HX.out.on hbw
          simp only [Act.put, List.setIfInBounds_toArray, List.set_cons_zero, List.set_cons_succ] at hK ⊢
          unfold opStep
          rw [if_pos (by rfl)]
          obtain ⟨d0, d1, d2, d3, d4, d5, dl⟩ := blk6 HXQ.1
          go_simp
          exact hK.out _ _ (Below.refl _ _) rfl _ rfl
        case r6_3 =>
          intro wq hbw st  K hK
          have KQ := KW.out.trans (hbw.mono KW.out.size)
          have HXQ := HX.out.on hbw
          simp only [Act.put, List.setIfInBounds_toArray, List.set_cons_zero, List.set_cons_succ] at hK ⊢
          unfold opStep
          rw [if_pos (by rfl)]
          go_simp
          have hpc := rupdate_any _ x wq HXQ.at_
          rw [P3.out] at hpc
          refine hpc.mono ?_
          rintro e wz ⟨rfl, hbz⟩
          go_simp
          exact hK.out _ _ hbz rfl _ rfl
        case r6_4 =>
          intro wq hbw st  K hK
          have KQ := KW.out.trans (hbw.mono KW.out.size)
          have HXQ := HX.out.on hbw
          simp only [Act.put, List.setIfInBounds_toArray, List.set_cons_zero, List.set_cons_succ] at hK ⊢
          unfold opStep
          rw [if_pos (by rfl)]
          go_simp
          exact hK.out _ _ (Below.refl _ _) rfl _ rfl
        case r6_5 =>
          intro wq hbw st  K hK
          have KQ := KW.out.trans (hbw.mono KW.out.size)
          have HXQ := HX.out.on hbw
          simp only [Act.put, List.setIfInBounds_toArray, List.set_cons_zero, List.set_cons_succ] at hK ⊢
          unfold opStep
          rw [if_neg (by change ¬ (false = true); exact Bool.false_ne_true)]
          exact hK.out _ _ (Below.refl _ _) rfl _ rfl
        case r6_6 =>
          intro wq hbw st  K hK
          have KQ := KW.out.trans (hbw.mono KW.out.size)
          have HXQ := HX.out.on hbw
          simp only [Act.put, List.setIfInBounds_toArray, List.set_cons_zero, List.set_cons_succ] at hK ⊢
          unfold opStep
          rw [if_neg (by change ¬ (false = true); exact Bool.false_ne_true)]
          exact hK.out _ _ (Below.refl _ _) rfl _ rfl
        case r6_7 =>
          intro wq hbw st  K hK
          have KQ := KW.out.trans (hbw.mono KW.out.size)
          have HXQ := HX.out.on hbw
          simp only [Act.put, List.setIfInBounds_toArray, List.set_cons_zero, List.set_cons_succ] at hK ⊢
          unfold opStep
          rw [if_neg (by change ¬ (false = true); exact Bool.false_ne_true)]
          exact hK.out _ _ (Below.refl _ _) rfl _ rfl
        case r6_8 =>
          intro wq hbw st  K hK
          have KQ := KW.out.trans (hbw.mono KW.out.size)
          have HXQ := HX.out.on hbw
          simp only [Act.put, List.setIfInBounds_toArray, List.set_cons_zero, List.set_cons_succ] at hK ⊢
          unfold opStep
          rw [if_pos (by rfl)]
          go_simp
          exact hK.out _ _ (Below.refl _ _) rfl _ rfl
        case r6_9 =>
          intro wq hbw st  K hK
          have KQ := KW.out.trans (hbw.mono KW.out.size)
          have HXQ := HX.out.on hbw
          simp only [Act.put, List.setIfInBounds_toArray, List.set_cons_zero, List.set_cons_succ] at hK ⊢
          unfold opStep
          rw [if_pos (by rfl)]
          go_simp
          exact hK.out _ _ (Below.refl _ _) rfl _ rfl
        case r6_10 =>
          intro wq hbw st  K hK
          have KQ := KW.out.trans (hbw.mono KW.out.size)
          have HXQ := HX.out.on hbw
          simp only [Act.put, List.setIfInBounds_toArray, List.set_cons_zero, List.set_cons_succ] at hK ⊢
          unfold opStep
          rw [if_pos (by rfl)]
          go_simp
          exact hK.out _ _ (Below.refl _ _) rfl _ rfl
        case r6_fin =>
          intro wq hbw
          try simp only [FinAll]
          simp only [Act.put, List.setIfInBounds_toArray, List.set_cons_zero, List.set_cons_succ]
          have K3 := Lib.hid (KW.out.trans (hbw.mono KW.out.size))
          clear hbw
          go_wp2
          go_ret2
          unfold LevMade
          rw [HE.out.1, HE.out.2]
          exact ⟨rfl, K3.out⟩
      | true =>
        cases h5 : decide (0 ≤ endO x) with
        | false =>
          have P3 := Lib.hid h3
          have P5 := Lib.hid h5
          have HE : Hid (lvN C x = C.length ∧ lvOk C x = false) := Lib.hid ⟨HNO.out.1, by rw [HNO.out.2]; simp [h3, h5]⟩
          clear h3 h5
          go_upto_region 6 with fail
          refine region_left [.is (.slice ca C.length cc), .is (.int .i64 (C.length : Int)), .is (.agg #[.int .i64 (cliO x), .int .i64 (kindO x), .int .i64 (begO x), .int .i64 (endO x), .slice xa na ka, .slice ya ny ky]), .is (.bool true), .is (.bool true), .is (.pointer (some ⟨W.heap.size, 3, none⟩)), .is (.int .i64 (endO x)), .is (.bool false), .is (.bool false), .is (.int .i64 (C.length : Int)), .is (.bool false)] (by kernel_rfl) rfl (by kernel_rfl) (by kernel_rfl) (.cons ?r7_0 (.cons ?r7_1 (.cons ?r7_2 (.cons ?r7_3 (.cons ?r7_4 (.cons ?r7_5 (.cons ?r7_6 (.cons ?r7_7 (.cons ?r7_8 (.cons ?r7_9 (.cons ?r7_10 .nil))))))))))) ?r7_fin
          case r7_0 =>
            intro wq hbw st  K hK
            have KQ := KW.out.trans (hbw.mono KW.out.size)
            have HXQ := HX.out.on hbw
            simp only [Act.put, List.setIfInBounds_toArray, List.set_cons_zero, List.set_cons_succ] at hK ⊢
            unfold opStep
            rw [if_pos (by rfl)]
            go_simp
            exact hK.out _ _ (Below.refl _ _) rfl _ rfl
          case r7_1 =>
            intro wq hbw st  K hK
            have KQ := KW.out.trans (hbw.mono KW.out.size)
            have HXQ := HX.out.on hbw
            simp only [Act.put, List.setIfInBounds_toArray, List.set_cons_zero, List.set_cons_succ] at hK ⊢
            unfold opStep
            rw [if_pos (by rfl)]
            go_simp
            exact hK.out _ _ (Below.refl _ _) rfl _ rfl
          case r7_2 =>
            intro wq hbw st  K hK
            have KQ := KW.out.trans (hbw.mono KW.out.size)
            have HXQ := HX.out.on hbw
            simp only [Act.put, List.setIfInBounds_toArray, List.set_cons_zero, List.set_cons_succ] at hK ⊢
            unfold opStep
            rw [if_pos (by rfl)]
            obtain ⟨d0, d1, d2, d3, d4, d5, dl⟩ := blk6 HXQ.1
            go_simp
            exact hK.out _ _ (Below.refl _ _) rfl _ rfl
          case r7_3 =>
            intro wq hbw st  K hK
            have KQ := KW.out.trans (hbw.mono KW.out.size)
            have HXQ := HX.out.on hbw
            simp only [Act.put, List.setIfInBounds_toArray, List.set_cons_zero, List.set_cons_succ] at hK ⊢
            unfold opStep
            rw [if_pos (by rfl)]
            go_simp
            have hpc := rupdate_any _ x wq HXQ.at_
            rw [P3.out] at hpc
            refine hpc.mono ?_
            rintro e wz ⟨rfl, hbz⟩
            go_simp
            exact hK.out _ _ hbz rfl _ rfl
          case r7_4 =>
            intro wq hbw st  K hK
            have KQ := KW.out.trans (hbw.mono KW.out.size)
            have HXQ := HX.out.on hbw
            simp only [Act.put, List.setIfInBounds_toArray, List.set_cons_zero, List.set_cons_succ] at hK ⊢
            unfold opStep
            rw [if_pos (by rfl)]
            go_simp
            exact hK.out _ _ (Below.refl _ _) rfl _ rfl
          case r7_5 =>
            intro wq hbw st  K hK
            have KQ := KW.out.trans (hbw.mono KW.out.size)
            have HXQ := HX.out.on hbw
            simp only [Act.put, List.setIfInBounds_toArray, List.set_cons_zero, List.set_cons_succ] at hK ⊢
            unfold opStep
            rw [if_pos (by rfl)]
            go_simp
            exact hK.out _ _ (Below.refl _ _) rfl _ rfl
          case r7_6 =>
            intro wq hbw st  K hK
            have KQ := KW.out.trans (hbw.mono KW.out.size)
            have HXQ := HX.out.on hbw
            simp only [Act.put, List.setIfInBounds_toArray, List.set_cons_zero, List.set_cons_succ] at hK ⊢
            unfold opStep
            rw [if_pos (by rfl)]
            obtain ⟨d0, d1, d2, d3, d4, d5, dl⟩ := blk6 HXQ.1
            go_simp
            exact hK.out _ _ (Below.refl _ _) rfl _ rfl
          case r7_7 =>
            intro wq hbw st  K hK
            have KQ := KW.out.trans (hbw.mono KW.out.size)
            have HXQ := HX.out.on hbw
            simp only [Act.put, List.setIfInBounds_toArray, List.set_cons_zero, List.set_cons_succ] at hK ⊢
            unfold opStep
            rw [if_pos (by rfl)]
            have he := P5.out
            go_simp
            exact hK.out _ _ (Below.refl _ _) rfl _ rfl
          case r7_8 =>
            intro wq hbw st  K hK
            have KQ := KW.out.trans (hbw.mono KW.out.size)
            have HXQ := HX.out.on hbw
            simp only [Act.put, List.setIfInBounds_toArray, List.set_cons_zero, List.set_cons_succ] at hK ⊢
            unfold opStep
            rw [if_pos (by rfl)]
            go_simp
            exact hK.out _ _ (Below.refl _ _) rfl _ rfl
          case r7_9 =>
            intro wq hbw st  K hK
            have KQ := KW.out.trans (hbw.mono KW.out.size)
            have HXQ := HX.out.on hbw
            simp only [Act.put, List.setIfInBounds_toArray, List.set_cons_zero, List.set_cons_succ] at hK ⊢
            unfold opStep
            rw [if_pos (by rfl)]
            go_simp
            exact hK.out _ _ (Below.refl _ _) rfl _ rfl
          case r7_10 =>
            intro wq hbw st  K hK
            have KQ := KW.out.trans (hbw.mono KW.out.size)
            have HXQ := HX.out.on hbw
            simp only [Act.put, List.setIfInBounds_toArray, List.set_cons_zero, List.set_cons_succ] at hK ⊢
            unfold opStep
            rw [if_pos (by rfl)]
            go_simp
            exact hK.out _ _ (Below.refl _ _) rfl _ rfl
          case r7_fin =>
            intro wq hbw
            try simp only [FinAll]
            simp only [Act.put, List.setIfInBounds_toArray, List.set_cons_zero, List.set_cons_succ]
            have K3 := Lib.hid (KW.out.trans (hbw.mono KW.out.size))
            clear hbw
            go_wp2
            go_ret2
            unfold LevMade
            rw [HE.out.1, HE.out.2]
            exact ⟨rfl, K3.out⟩
        | true =>
          have P3 := Lib.hid h3
          have P5 := Lib.hid h5
          have HE : Hid (lvN C x = C.length ∧ lvOk C x = true) := Lib.hid ⟨HNO.out.1, by rw [HNO.out.2]; simp [h3, h5]⟩
          clear h3 h5
          go_upto_region 6 with fail
          refine region_left [.is (.slice ca C.length cc), .is (.int .i64 (C.length : Int)), .is (.agg #[.int .i64 (cliO x), .int .i64 (kindO x), .int .i64 (begO x), .int .i64 (endO x), .slice xa na ka, .slice ya ny ky]), .is (.bool true), .is (.bool true), .is (.pointer (some ⟨W.heap.size, 3, none⟩)), .is (.int .i64 (endO x)), .is (.bool true), .is (.bool true), .is (.int .i64 (C.length : Int)), .is (.bool true)] (by kernel_rfl) rfl (by kernel_rfl) (by kernel_rfl) (.cons ?r8_0 (.cons ?r8_1 (.cons ?r8_2 (.cons ?r8_3 (.cons ?r8_4 (.cons ?r8_5 (.cons ?r8_6 (.cons ?r8_7 (.cons ?r8_8 (.cons ?r8_9 (.cons ?r8_10 .nil))))))))))) ?r8_fin
          case r8_0 =>
            intro wq hbw st  K hK
            have KQ := KW.out.trans (hbw.mono KW.out.size)
            have HXQ := HX.out.on hbw
            simp only [Act.put, List.setIfInBounds_toArray, List.set_cons_zero, List.set_cons_succ] at hK ⊢
            unfold opStep
            rw [if_pos (by rfl)]
            go_simp
            exact hK.out _ _ (Below.refl _ _) rfl _ rfl
          case r8_1 =>
            intro wq hbw st  K hK
            have KQ := KW.out.trans (hbw.mono KW.out.size)
            have HXQ := HX.out.on hbw
            simp only [Act.put, List.setIfInBounds_toArray, List.set_cons_zero, List.set_cons_succ] at hK ⊢
            unfold opStep
            rw [if_pos (by rfl)]
            go_simp
            exact hK.out _ _ (Below.refl _ _) rfl _ rfl
          case r8_2 =>
            intro wq hbw st  K hK
            have KQ := KW.out.trans (hbw.mono KW.out.size)
            have HXQ := HX.out.on hbw
            simp only [Act.put, List.setIfInBounds_toArray, List.set_cons_zero, List.set_cons_succ] at hK ⊢
            unfold opStep
            rw [if_pos (by rfl)]
            obtain ⟨d0, d1, d2, d3, d4, d5, dl⟩ := blk6 HXQ.1
            go_simp
            exact hK.out _ _ (Below.refl _ _) rfl _ rfl
          case r8_3 =>
            intro wq hbw st  K hK
            have KQ := KW.out.trans (hbw.mono KW.out.size)
            have HXQ := HX.out.on hbw
            simp only [Act.put, List.setIfInBounds_toArray, List.set_cons_zero, List.set_cons_succ] at hK ⊢
            unfold opStep
            rw [if_pos (by rfl)]
            go_simp
            have hpc := rupdate_any _ x wq HXQ.at_
            rw [P3.out] at hpc
            refine hpc.mono ?_
            rintro e wz ⟨rfl, hbz⟩
            go_simp
            exact hK.out _ _ hbz rfl _ rfl
          case r8_4 =>
            intro wq hbw st  K hK
            have KQ := KW.out.trans (hbw.mono KW.out.size)
            have HXQ := HX.out.on hbw
            simp only [Act.put, List.setIfInBounds_toArray, List.set_cons_zero, List.set_cons_succ] at hK ⊢
            unfold opStep
            rw [if_pos (by rfl)]
            go_simp
            exact hK.out _ _ (Below.refl _ _) rfl _ rfl
          case r8_5 =>
            intro wq hbw st  K hK
            have KQ := KW.out.trans (hbw.mono KW.out.size)
            have HXQ := HX.out.on hbw
            simp only [Act.put, List.setIfInBounds_toArray, List.set_cons_zero, List.set_cons_succ] at hK ⊢
            unfold opStep
            rw [if_pos (by rfl)]
            go_simp
            exact hK.out _ _ (Below.refl _ _) rfl _ rfl
          case r8_6 =>
            intro wq hbw st  K hK
            have KQ := KW.out.trans (hbw.mono KW.out.size)
            have HXQ := HX.out.on hbw
            simp only [Act.put, List.setIfInBounds_toArray, List.set_cons_zero, List.set_cons_succ] at hK ⊢
            unfold opStep
            rw [if_pos (by rfl)]
            obtain ⟨d0, d1, d2, d3, d4, d5, dl⟩ := blk6 HXQ.1
            go_simp
            exact hK.out _ _ (Below.refl _ _) rfl _ rfl
          case r8_7 =>
            intro wq hbw st  K hK
            have KQ := KW.out.trans (hbw.mono KW.out.size)
            have HXQ := HX.out.on hbw
            simp only [Act.put, List.setIfInBounds_toArray, List.set_cons_zero, List.set_cons_succ] at hK ⊢
            unfold opStep
            rw [if_pos (by rfl)]
            have he := P5.out
            go_simp
            exact hK.out _ _ (Below.refl _ _) rfl _ rfl
          case r8_8 =>
            intro wq hbw st  K hK
            have KQ := KW.out.trans (hbw.mono KW.out.size)
            have HXQ := HX.out.on hbw
            simp only [Act.put, List.setIfInBounds_toArray, List.set_cons_zero, List.set_cons_succ] at hK ⊢
            unfold opStep
            rw [if_pos (by rfl)]
            go_simp
            exact hK.out _ _ (Below.refl _ _) rfl _ rfl
          case r8_9 =>
            intro wq hbw st  K hK
            have KQ := KW.out.trans (hbw.mono KW.out.size)
            have HXQ := HX.out.on hbw
            simp only [Act.put, List.setIfInBounds_toArray, List.set_cons_zero, List.set_cons_succ] at hK ⊢
            unfold opStep
            rw [if_pos (by rfl)]
            go_simp
            exact hK.out _ _ (Below.refl _ _) rfl _ rfl
          case r8_10 =>
            intro wq hbw st  K hK
            have KQ := KW.out.trans (hbw.mono KW.out.size)
            have HXQ := HX.out.on hbw
            simp only [Act.put, List.setIfInBounds_toArray, List.set_cons_zero, List.set_cons_succ] at hK ⊢
            unfold opStep
            rw [if_pos (by rfl)]
            go_simp
            exact hK.out _ _ (Below.refl _ _) rfl _ rfl
          case r8_fin =>
            intro wq hbw
            try simp only [FinAll]
            simp only [Act.put, List.setIfInBounds_toArray, List.set_cons_zero, List.set_cons_succ]
            have K3 := Lib.hid (KW.out.trans (hbw.mono KW.out.size))
            clear hbw
            go_wp2
            go_ret2
            unfold LevMade
            rw [HE.out.1, HE.out.2]
            exact ⟨rfl, K3.out⟩
end Go.Proofs.YtjijlhjggpibjaaGreat
