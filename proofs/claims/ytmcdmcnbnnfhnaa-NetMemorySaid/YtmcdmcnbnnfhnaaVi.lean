/-
  Chapter 28: worlds in which cells keep their kinds; flip.
-/
import Derived.Test.YtmcdmcnbnnfhnaaDe
namespace Go.Proofs.Ytmcdmcnbnnfhnaa
open Go.RowKit
set_option maxRecDepth 100000

/-- Values of one kind: integers of one kind, strings; all others are equal. -/
def SK (u u' : Value) : Prop := (∃ k a a', u = .int k a ∧ u' = .int k a') ∨ (∃ s s', u = .string s ∧ u' = .string s') ∨ u = u'
theorem SK.refl (u : Value) : SK u u := .inr (.inr rfl)
theorem SK.trans {a b c : Value} (h : SK a b) (k : SK b c) : SK a c := by
  rcases h with ⟨q, x, y, rfl, rfl⟩ | ⟨x, y, rfl, rfl⟩ | rfl
  · rcases k with ⟨q', x', y', h1, rfl⟩ | ⟨x', y', h1, rfl⟩ | rfl
    · injection h1 with h1 h2; subst h1 h2; exact .inl ⟨_, _, _, rfl, rfl⟩
    · cases h1
    · exact .inl ⟨_, _, _, rfl, rfl⟩
  · rcases k with ⟨q', x', y', h1, rfl⟩ | ⟨x', y', h1, rfl⟩ | rfl
    · cases h1
    · exact .inr (.inl ⟨_, _, rfl, rfl⟩)
    · exact .inr (.inl ⟨_, _, rfl, rfl⟩)
  · exact k
/-- Only blocks of P are written, and every cell keeps its kind. -/
structure KindK (P : Nat → Prop) (w w' : World) : Prop where
  os : w'.os = w.os
  tape : w'.tape = w.tape
  output : w'.output = w.output
  size : w.heap.size ≤ w'.heap.size
  block : ∀ k, k < w.heap.size → ¬ P k → w'.heap[k]? = w.heap[k]?
  cell : ∀ k q u, k < w.heap.size → w.cell? ⟨k, q, none⟩ = some u → ∃ u', w'.cell? ⟨k, q, none⟩ = some u' ∧ SK u u'
  frz : ∀ k q, k < w.heap.size → w'.frozen? ⟨k, q, none⟩ = w.frozen? ⟨k, q, none⟩
section
variable {P : Nat → Prop} {w w' w'' : World} {b q : Nat}
theorem KindK.refl (P : Nat → Prop) (w : World) : KindK P w w := ⟨rfl, rfl, rfl, Nat.le_refl _, fun _ _ _ => rfl, fun _ _ u _ h => ⟨u, h, .refl u⟩, fun _ _ _ => rfl⟩
theorem KindK.trans (h : KindK P w w') (k : KindK P w' w'') : KindK P w w'' :=
  ⟨k.os.trans h.os, k.tape.trans h.tape, k.output.trans h.output, Nat.le_trans h.size k.size, fun i hi hp => (k.block i (Nat.lt_of_lt_of_le hi h.size) hp).trans (h.block i hi hp), fun i q u hi hu => by
    obtain ⟨u1, h1, s1⟩ := h.cell i q u hi hu
    obtain ⟨u2, h2, s2⟩ := k.cell i q u1 (Nat.lt_of_lt_of_le hi h.size) h1
    exact ⟨u2, h2, s1.trans s2⟩, fun i q hi => (k.frz i q (Nat.lt_of_lt_of_le hi h.size)).trans (h.frz i q hi)⟩
theorem KindK.of (h : Below w.heap.size w w') : KindK P w w' :=
  ⟨h.os, h.tape, h.output, h.size, fun i hi _ => h.block i hi, fun i q u hi hu => ⟨u, (h.cell (p := ⟨i, q, none⟩) hi).trans hu, .refl u⟩, fun i q hi => h.frozen (p := ⟨i, q, none⟩) hi⟩
theorem KindK.set {u u' : Value} (hP : P b) (hc : w.cell? ⟨b, q, none⟩ = some u) (hs : SK u u') : KindK P w (w.setCell ⟨b, q, none⟩ u') := by
  refine ⟨rfl, rfl, rfl, by simp [World.setCell], fun i _ hi => Below.heap_setCell w ⟨b, q, none⟩ u' i (by rintro rfl; exact hi hP), fun i j x hi hx => ?_, fun i j hi => ?_⟩
  · by_cases e : i = b ∧ j = q
    · obtain ⟨rfl, rfl⟩ := e
      rw [hc] at hx
      injection hx with hx
      subst hx
      exact ⟨u', World.cell?_setCell_same w _ _ hc, hs⟩
    · refine ⟨x, ?_, .refl x⟩
      rw [World.cell?_setCell_other]
      · exact hx
      · intro h; injection h with h1 h2; exact e ⟨h1.symm, h2.symm⟩
  · by_cases e : i = b
    · subst e
      unfold World.frozen? World.setCell
      simp only [Array.getElem?_modify, if_true]
      cases w.heap[i]? with
      | none => rfl
      | some o => cases o <;> rfl
    · exact World.frozen?_of_block (Below.heap_setCell w ⟨b, q, none⟩ u' i e)
theorem KindK.slc {s : Option Addr} {n c : Nat} (h : KindK P w w') (hb : b < w.heap.size) (hc : w.cell? ⟨b, q, none⟩ = some (.slice s n c)) : w'.cell? ⟨b, q, none⟩ = some (.slice s n c) := by
  obtain ⟨u', h1, h2⟩ := h.cell b q _ hb hc
  rcases h2 with ⟨_, _, _, e, _⟩ | ⟨_, _, e, _⟩ | e
  · cases e
  · cases e
  · rw [e]; exact h1
theorem KindK.int {k : IntKind} {a : Int} (h : KindK P w w') (hb : b < w.heap.size) (hc : w.cell? ⟨b, q, none⟩ = some (.int k a)) : ∃ a', w'.cell? ⟨b, q, none⟩ = some (.int k a') := by
  obtain ⟨u', h1, h2⟩ := h.cell b q _ hb hc
  rcases h2 with ⟨_, _, x, e, rfl⟩ | ⟨_, _, e, _⟩ | e
  · injection e with e _; subst e; exact ⟨x, h1⟩
  · cases e
  · exact ⟨a, by rw [e]; exact h1⟩
theorem KindK.str {s : ByteArray} (h : KindK P w w') (hb : b < w.heap.size) (hc : w.cell? ⟨b, q, none⟩ = some (.string s)) : ∃ s', w'.cell? ⟨b, q, none⟩ = some (.string s') := by
  obtain ⟨u', h1, h2⟩ := h.cell b q _ hb hc
  rcases h2 with ⟨_, _, _, e, _⟩ | ⟨_, x, e, rfl⟩ | e
  · cases e
  · exact ⟨x, h1⟩
  · exact ⟨s, by rw [e]; exact h1⟩
theorem KindK.free (h : KindK P w w') (hb : b < w.heap.size) (hf : w.frozen? ⟨b, q, none⟩ = false) : w'.frozen? ⟨b, q, none⟩ = false := (h.frz b q hb).trans hf
theorem KindK.lt (h : KindK P w w') (hb : b < w.heap.size) : b < w'.heap.size := Nat.lt_of_lt_of_le hb h.size
theorem KindK.blk {g : Nat} {t : TypeId} {cs : Array Value} (h : KindK P w w') (hb : Blk w g t cs) (hg : ¬ P g) : Blk w' g t cs := (h.block g hb.lt hg).trans hb
theorem KindK.kept (h : KindK P w w') : Kept P w w' := ⟨h.os, h.tape, h.output, h.size, h.block⟩
theorem KindK.mono {P' : Nat → Prop} (h : KindK P w w') (hp : ∀ k, P k → P' k) : KindK P' w w' := ⟨h.os, h.tape, h.output, h.size, fun i hi hn => h.block i hi fun q => hn (hp i q), h.cell, h.frz⟩
theorem SK.int (k : IntKind) (a a' : Int) : SK (.int k a) (.int k a') := .inl ⟨k, a, a', rfl, rfl⟩
theorem SK.str (s s' : ByteArray) : SK (.string s) (.string s') := .inr (.inl ⟨s, s', rfl, rfl⟩)
end
theorem ReadsD.free {P : Nat → Prop} {w : World} {v : Value} {K : Nat} {xs : List (List DV)} (h : ReadsD P w v (.ls K xs)) {b off n c : Nat} (hv : v = .slice (some ⟨b, off, none⟩) n c) (q : Nat) (hq : q < xs.length * K) : w.frozen? ⟨b, off + q, none⟩ = false := by
  cases h with
  | nil K ao cap hm h0 => simp at hq
  | ls us h0 hL hc hm hP hb hF hK ha hr =>
    injection hv with e1 _ _
    injection e1 with e1
    injection e1 with e1 e2
    subst e1 e2
    exact hF q hq
/-- An element of a list of structs, with its cells' freedom to be written. -/
theorem ReadsD.itemF {P : Nat → Prop} {w : World} {v : Value} {α : Type} {f : α → List DV} {K : Nat} {l : List α} (h : ReadsD P w v (.ls K (l.map f))) {j : Nat} (hj : j < l.length) : ∃ (b off cap : Nat) (cs : List Value), v = .slice (some ⟨b, off, none⟩) l.length cap ∧ P b ∧ b < w.heap.size ∧ cs.length = K ∧ (∀ i u, cs[i]? = some u → w.cell? ⟨b, off + j * K + i, none⟩ = some u) ∧ (∀ i, i < K → w.frozen? ⟨b, off + j * K + i, none⟩ = false) ∧ CellsD P w cs (f l[j]) := by
  obtain ⟨b, off, cap, cs, hv, h1, h2, h3, h4, h5, h6⟩ := h.item hj
  refine ⟨b, off, cap, cs, hv, h1, h2, h3, fun i u hu => h5 w (Below.refl _ _) i u hu, fun i hi => ?_, h6⟩
  have h7 := h.free hv (j * K + i) (by
    rw [List.length_map]
    have : j * K + K ≤ l.length * K := by rw [← Nat.succ_mul]; exact Nat.mul_le_mul_right _ hj
    omega)
  rwa [← Nat.add_assoc] at h7
def VoidK (P : Nat → Prop) (w : World) (e : Ending) (w' : World) : Prop := e = .returned (.tuple #[]) ∧ KindK P w w'
set_option maxHeartbeats 4000000 in
theorem flip_any {P : Nat → Prop} (w0 w : World) (v : Value) (l : Str) (h : ReadsD P w0 v (bytesD l)) (hk : KindK P w0 w) : Calls Try.prog 33 #[v] w (VoidK P w) := by
  have HR := Lib.hid h
  have HK := Lib.hid hk
  obtain ⟨ao, cap, rfl, hl, hm, -, hL⟩ := h.bslc
  have HF : Hid (∀ e w', e = .returned (.tuple #[]) ∧ KindK P w w' → VoidK P w e w') := Lib.hid fun _ _ h => h
  generalize hQ : VoidK P w = Q at *
  unfold maxLen at hm
  clear hQ h hk
  go_enter Try.func33, Try.ntmps33
  go_wp2
  go_loopg [2] l.length (fun m i wr => ∃ k : Nat, m + k = l.length ∧ i = .int .i64 k ∧ KindK P w wr)
  case atStart => exact ⟨0, by omega, rfl, KindK.refl _ _⟩
  case round =>
    rename World => w1
    obtain ⟨k, hmk, rfl, hb⟩ := hrel
    have HM := Lib.hid hmk
    have HB := Lib.hid hb
    have hk0 : (0 : Int) ≤ (k : Int) := by omega
    have hk : k ≤ l.length := by omega
    clear hmk hb
    by_cases hlt : k < l.length
    · have hki : (k : Int) < l.length := by omega
      obtain ⟨b, off, c1, cs1, e1, hP, hbl, hn, hc, hf, hcs⟩ := ReadsD.itemF (f := fun c => [DV.val (v8 c)]) HR.out hlt
      injection e1 with e1 e2 e3
      subst e1
      clear e2 e3
      obtain ⟨u, cs2, rfl, hu, hcs⟩ := hcs.cons
      have hu1 := hu.atv
      subst hu1
      clear hu
      have HKW := Lib.hid (HK.out.trans HB.out)
      obtain ⟨a, hca⟩ := HKW.out.int hbl (hc 0 _ rfl)
      have hfa := HKW.out.free hbl (hf 0 (by omega))
      rw [Nat.add_zero, Nat.mul_one] at hca hfa
      have hz := HKW.out.lt hbl
      have HP := Lib.hid hP
      have HLT := Lib.hid hlt
      clear hP hbl hn hc hf hcs hlt
      go_wp2
      go_roundg (l.length - (k + 1))
      case measure => have := HM.out; have := HLT.out; omega
      case rel => exact ⟨k + 1, by have := HLT.out; omega, by go_num, HB.out.trans (KindK.set HP.out hca (SK.int _ _ _))⟩
    · have hki : ¬ (k : Int) < l.length := by omega
      go_wp2
      go_end0
      exact HF.out _ _ ⟨rfl, HB.out⟩
end Go.Proofs.Ytmcdmcnbnnfhnaa
