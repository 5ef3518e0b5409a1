/-
  Chapter 29: a trace appended to a list of events of the call's own; slices.Clone of a trace; IndexFunc at the closure of Prefix.
-/
import Derived.Test.YtfdicndmebhmdaaEm
import Derived.Laws.AppendOwnNone
import Derived.Lib.SliceRun
namespace Go.Proofs.Ytfdicndmebhmdaa
open Go.RowKit

def flatE : List Ev → List Value → List Value
  | e :: t, u :: us => .int .i64 e.1 :: u :: flatE t us
  | _, _ => []
theorem flatE_len : ∀ {t : List Ev} {us : List Value}, us.length = t.length → (flatE t us).length = t.length * 2
  | [], [], _ => rfl
  | [], _ :: _, h => by simp at h
  | _ :: _, [], h => by simp at h
  | e :: t, u :: us, h => by
    simp only [flatE, List.length_cons] at h ⊢
    rw [flatE_len (by omega)]; omega
theorem flatE_get : ∀ {t : List Ev} {us : List Value}, us.length = t.length → ∀ k (h : k < t.length), (flatE t us)[k * 2]? = some (.int .i64 t[k].1) ∧ (flatE t us)[k * 2 + 1]? = us[k]?
  | [], _, _, k, h => by simp at h
  | _ :: _, [], h, _, _ => by simp at h
  | e :: t, u :: us, hl, 0, h => ⟨rfl, rfl⟩
  | e :: t, u :: us, hl, k + 1, h => by
    have ih := flatE_get (t := t) (us := us) (by simpa using hl) k (by simpa using h)
    simp only [flatE]
    rw [show (k + 1) * 2 = k * 2 + 1 + 1 by omega, show k * 2 + 1 + 1 + 1 = (k * 2 + 1) + 1 + 1 by omega]
    simp only [List.getElem?_cons_succ, List.getElem_cons_succ]
    exact ih
/-- A list of values by choice, one for each element. -/
theorem pick {n : Nat} {p : Nat → Value → Prop} (h : ∀ k, k < n → ∃ u, p k u) : ∃ us : List Value, us.length = n ∧ ∀ k, k < n → ∃ u, us[k]? = some u ∧ p k u := by
  induction n with
  | zero => exact ⟨[], rfl, fun k h => by omega⟩
  | succ n ih =>
    obtain ⟨us, h1, h2⟩ := ih fun k hk => h k (by omega)
    obtain ⟨u, hu⟩ := h n (by omega)
    refine ⟨us ++ [u], by simp [h1], fun k hk => ?_⟩
    by_cases e : k = n
    · subst e
      exact ⟨u, by rw [List.getElem?_append_right (by omega), h1]; simp, hu⟩
    · obtain ⟨x, a, b⟩ := h2 k (by omega)
      exact ⟨x, by rw [List.getElem?_append_left (by omega)]; exact a, b⟩
theorem ReadsE.news {w : World} {ad : Addr} {n cap : Nat} {t : List Ev} (h : ReadsE w (.slice (some ad) n cap) t) : n = t.length ∧ cap ≤ maxLen ∧ ∃ news : List Value, news.length = n * 2 ∧ (∀ j u, news[j]? = some u → w.cell? (ad.add j) = some u ∧ (0 < n → ad.block < w.heap.size)) ∧ (∀ u ∈ news, u.oneCell' = true) ∧
    ∀ k (h : k < t.length), ∃ cs : List Value, cs.length = 2 ∧ (∀ i, i < 2 → news[k * 2 + i]? = cs[i]?) ∧ EvE w cs t[k] := by
  obtain ⟨ao, cap', hv, h1, h2, h3, h4⟩ := h
  injection hv with e1 e2 e3
  subst e3
  refine ⟨e2, h2, ?_⟩
  by_cases h0 : t = []
  · subst h0
    exact ⟨[], by rw [e2]; rfl, (fun j u hu => by simp at hu), (fun u hu => by cases hu), fun k h => by simp at h⟩
  · obtain ⟨b, off, ha, hb, hc⟩ := h4 h0
    rw [ha] at e1
    injection e1 with e1
    subst e1
    obtain ⟨us, hl, hus⟩ := pick (n := t.length) (p := fun k u => ∀ h : k < t.length, (∀ i x, (evCs t[k] u)[i]? = some x → w.cell? ⟨b, off + k * 2 + i, none⟩ = some x) ∧ Reads vi w u t[k].2) fun k hk => by
      obtain ⟨cs, _, h6, vu, rfl, r1⟩ := hc k hk
      exact ⟨vu, fun _ => ⟨h6, r1⟩⟩
    have hfl := flatE_len hl
    refine ⟨flatE t us, by rw [hfl, e2], fun j u hu => ?_, fun u hu => ?_, fun k hk => ?_⟩
    · have hj : j < t.length * 2 := by rw [← hfl]; exact (List.getElem?_eq_some_iff.1 hu).1
      have hk : j / 2 < t.length := by omega
      obtain ⟨x, hx, hxx⟩ := hus (j / 2) hk
      obtain ⟨g1, g2⟩ := flatE_get hl (j / 2) hk
      have g3 := (hxx hk).1
      refine ⟨?_, fun _ => hb⟩
      rw [show Addr.add ⟨b, off, none⟩ j = (⟨b, off + j, none⟩ : Addr) by by_cases h0 : j = 0 <;> simp [Addr.add, h0]]
      rcases Nat.mod_two_eq_zero_or_one j with e | e
      · have e2 : j = j / 2 * 2 := by omega
        rw [e2, g1] at hu
        have := g3 0 _ rfl
        rw [Nat.add_zero] at this
        rw [e2, this]; exact hu
      · have e2 : j = j / 2 * 2 + 1 := by omega
        rw [e2, g2, hx] at hu
        have := g3 1 _ rfl
        rw [e2, ← Nat.add_assoc, this]; exact hu
    · obtain ⟨j, hj, rfl⟩ := List.mem_iff_getElem.1 hu
      rw [hfl] at hj
      have hk : j / 2 < t.length := by omega
      obtain ⟨x, hx, hxx⟩ := hus (j / 2) hk
      obtain ⟨g1, g2⟩ := flatE_get hl (j / 2) hk
      have hge : (flatE t us)[j]? = some (flatE t us)[j] := List.getElem?_eq_getElem _
      rcases Nat.mod_two_eq_zero_or_one j with e | e
      · have e2 : j = j / 2 * 2 := by omega
        have h5 : (flatE t us)[j]? = some (.int .i64 t[j / 2].1) := by rw [← g1, ← e2]
        rw [hge] at h5
        injection h5 with h5
        rw [h5]; rfl
      · have e2 : j = j / 2 * 2 + 1 := by omega
        have h5 : (flatE t us)[j]? = some x := by rw [← hx, ← g2, ← e2]
        rw [hge] at h5
        injection h5 with h5
        obtain ⟨a1, n1, c1, rfl⟩ := Slc.of_reads (hxx hk).2
        rw [h5]; rfl
    · obtain ⟨x, hx, hxx⟩ := hus k hk
      obtain ⟨g1, g2⟩ := flatE_get hl k hk
      refine ⟨evCs t[k] x, rfl, fun i hi => ?_, x, rfl, (hxx hk).2⟩
      match i, hi with
      | 0, _ => exact g1
      | 1, _ => exact g2.trans hx
abbrev EvW (W1 : World) : World → List Value → Ev → Prop := fun _ cs o => EvE W1 cs o
set_option maxRecDepth 100000 in
/-- append of a trace that is read. -/
theorem append_evs {B : Nat} {ops : Array Oper} {rest : List Oper} {o : Oper} {a : Act} {w w0 W1 : World} {Q : Exit → Act → World → Prop} (hgd : o.guard = none) (s x : Operand)
    (ho : o.op = .call { callee := .builtin .append, args := #[s, x], argTypes := #[22, 22] })
    (v u : Value) (L ys : List Ev) (hs : a.eval s = v) (hown : OwnE B (EvW W1) w0 w v L) (hx : a.eval x = u) (hu : ReadsE W1 u ys) (hW : Below W1.heap.size W1 w) (hlen : L.length + ys.length ≤ 100000)
    (h : ∀ v' w', OwnE B (EvW W1) w0 w' v' (L ++ ys) → Kept (fun k => B ≤ k) w w' → wpList Try.prog ops Q rest (a.put o.dst v') w') : wpList Try.prog ops Q (o :: rest) a w := by
  obtain ⟨i0, hinf, hz0, hz1, hz2⟩ := info_parts Try.infoEv
  obtain ⟨hb, cells, hrow, hc⟩ := hown
  obtain ⟨au, n, c, rfl⟩ := Slc.of_readsK hu
  cases au with
  | none =>
    obtain ⟨ao, cap', hv, h1, h2, h3, h4⟩ := hu
    injection hv with e1 e2 e3
    have h5 := h3 e1.symm
    have h0 : ys = [] := List.length_eq_zero_iff.1 (by omega)
    subst h0
    have en : n = 0 := e2
    have ec : c = 0 := by omega
    subst en ec
    refine wpList_append_own_none hgd s x 22 ho B 29 i0 2 Try.underlying22 hinf v L.length cells hs hrow hx ?_
    exact h v w ⟨hb, cells, by simpa using hrow, by simpa using hc⟩ (Kept.refl _ _)
  | some ad =>
    obtain ⟨e2, hcm, news, hl, hcell, hone, hev⟩ := hu.news
    subst e2
    refine wpList_append_own w hgd s x 22 ho B 29 i0 _ 2 32 Try.underlying22 hinf hz0 hz1 hz2 rfl (by decide) v L.length cells hs hrow ad ys.length c news hx hl ?_ hone (by unfold maxLen; omega) (by omega) hb.2.1 ?_
    · intro j u hu
      have h1 := hcell j u hu
      have hpos : 0 < ys.length := by have := (List.getElem?_eq_some_iff.1 hu).1; omega
      exact (hW.cell (p := ad.add j) (by have h2 := h1.2 hpos; unfold Addr.add; split <;> exact h2)).trans h1.1
    · intro v' w' h1 h2 _
      have hk : Kept (fun k => B ≤ k) w w' := Kept.ofG h2 fun k hk => (hrow.lt k hk.symm).1
      refine h v' w' ⟨⟨hb.1, Nat.le_trans hb.2.1 h2.size, hb.2.2.trans (hk.below hb.2.2.size fun k hk => by have := hb.1; omega)⟩, cells ++ news, by rw [List.length_append]; exact h1, fun k hk => ?_⟩ hk
      have hcl : cells.length = L.length * 2 := hrow.1
      by_cases hlt : k < L.length
      · obtain ⟨ds, h5, h6, h7⟩ := hc k hlt
        refine ⟨ds, h5, fun i hi => ?_, by rw [List.getElem_append_left hlt]; exact h7⟩
        rw [List.getElem?_append_left (by omega)]
        exact h6 i hi
      · have hk' : k - L.length < ys.length := by rw [List.length_append] at hk; omega
        obtain ⟨ds, h5, h6, h7⟩ := hev (k - L.length) hk'
        refine ⟨ds, h5, fun i hi => ?_, by rw [List.getElem_append_right (by omega)]; exact h7⟩
        rw [List.getElem?_append_right (by omega), hcl, ← h6 i hi]
        congr 1
        omega
theorem OwnE.made {B : Nat} {w0 w : World} (E : World → List Value → Ev → Prop) (h1 : w0.heap.size ≤ B) (h2 : B ≤ w.heap.size) (h3 : Below w0.heap.size w0 w) : OwnE B E w0 (w.alloc (.cells #[] 29)) (.slice (some ⟨w.heap.size, 0, none⟩) 0 0) [] :=
  ⟨⟨h1, by simp; omega, h3.alloc h3.size _⟩, [], World.ownsRow_made w #[] 0 h2 (Nat.zero_le _) rfl, fun k h => by simp at h⟩
set_option maxRecDepth 100000 in
set_option maxHeartbeats 1000000 in
theorem eclone_any (v : Value) (t : List Ev) (w : World) (hr : ReadsE w v t) (hn : t.length ≤ 1000) : Calls Try.prog 46 #[v] w fun e w' => ∃ v', e = .returned v' ∧ OwnE w.heap.size (EvW w) w w' v' t := by
  have HR := Lib.hid hr
  obtain ⟨ao, n, c, rfl⟩ := Slc.of_readsK hr
  cases ao with
  | none =>
    obtain ⟨ao, cap', hv, h1, h2, h3, h4⟩ := hr
    injection hv with e1 e2 e3
    have h5 := h3 e1.symm
    have h0 : t = [] := List.length_eq_zero_iff.1 (by omega)
    have en : n = 0 := by rw [e2, h0]; rfl
    have ec : c = 0 := by omega
    subst en ec
    clear h4 h3 h2 h1 HR e1 e2 e3 h5
    subst h0
    have hq : (binOp .eql 22 (.slice none 0 0) (.slice none 0 0)).run Try.prog w = .ok (.bool true) w := Lib.run_eql_slice_nil w 22 29 none 0 0 0 0 Try.underlying22
    go_enter Try.func46, Try.ntmps46
    go_wp2
    go_ret
    exact ⟨_, rfl, OwnE.nil _ (Nat.le_refl _) (Nat.le_refl _) (Below.refl _ _)⟩
  | some ad =>
    clear hr
    have hq : (binOp .eql 22 (.slice (some ad) n c) (.slice none 0 0)).run Try.prog w = .ok (.bool false) w := Lib.run_eql_slice_nil w 22 29 (some ad) n c 0 0 Try.underlying22
    go_enter Try.func46, Try.ntmps46
    go_wp2_with (at_builtin; refine append_evs (B := w.heap.size) (w0 := w) (W1 := w) rfl _ _ rfl (.slice (some ⟨w.heap.size, 0, none⟩) 0 0) (.slice (some ad) n c) [] t rfl (OwnE.made _ (Nat.le_refl _) (Nat.le_refl _) (Below.refl _ _)) rfl HR.out ((Below.refl _ _).alloc (Nat.le_refl _) _) (by simp; omega) ?_)
    intro v' w' h1 _
    have HX := Lib.hid h1
    clear h1
    go_wp2
    go_ret
    exact ⟨_, rfl, HX.out⟩
end Go.Proofs.Ytfdicndmebhmdaa
