/-
  Chapter 02: the source that Parse reads: its object in memory, the methods next and word.
-/
import Derived.Test.YtgolodpihmdmoaaNe
namespace Go.Proofs.Ytgolodpihmdmoaa
open Go.RowKit Go.Sort

/-- The block of a source: its string and its offset. -/
def SrcAt (w : World) (bp : Nat) (s : ByteArray) (i : Nat) : Prop := w.heap[bp]? = some (.cells #[.string s, .int .i64 i] 50 (0, 0))

section
variable {w w' : World} {bp : Nat} {s : ByteArray} {i j : Nat}
theorem SrcAt.lt (h : SrcAt w bp s i) : bp < w.heap.size := by
  rcases Nat.lt_or_ge bp w.heap.size with h' | h'
  · exact h'
  · unfold SrcAt at h; rw [Array.getElem?_eq_none h'] at h; cases h
theorem SrcAt.c0 (h : SrcAt w bp s i) : w.cell? ⟨bp, 0, none⟩ = some (.string s) := by unfold SrcAt at h; simp [World.cell?, h]
theorem SrcAt.c1 (h : SrcAt w bp s i) : w.cell? ⟨bp, 1, none⟩ = some (.int .i64 i) := by unfold SrcAt at h; simp [World.cell?, h]
theorem SrcAt.f1 (h : SrcAt w bp s i) : w.frozen? ⟨bp, 1, none⟩ = false := by unfold SrcAt at h; simp [World.frozen?, h]
theorem SrcAt.set (h : SrcAt w bp s i) : SrcAt (w.setCell ⟨bp, 1, none⟩ (.int .i64 j)) bp s j := by
  unfold SrcAt at *
  simp [World.setCell, Array.getElem?_modify, h]
theorem SrcAt.drew (h : SrcAt w bp s i) : SrcAt w.drew bp s i := h
theorem SrcAt.drewN (h : SrcAt w bp s i) (q : Nat) : SrcAt (w.drewN q) bp s i := h
theorem SrcAt.keep (h : SrcAt w bp s i) {row : Option Nat} (hg : w.grownBy w' row) (hne : row ≠ some bp) : SrcAt w' bp s i := by
  unfold SrcAt at *
  rw [hg.block bp (SrcAt.lt h) (fun e => hne e.symm)]; exact h
end

theorem grown_refl (w : World) (row : Option Nat) : w.grownBy w row := ⟨rfl, rfl, rfl, Nat.le_refl _, fun _ _ _ => rfl⟩
theorem grown_trans {a b c : World} {row : Option Nat} (h : a.grownBy b row) (k : b.grownBy c row) : a.grownBy c row :=
  ⟨k.os.trans h.os, k.tape.trans h.tape, k.output.trans h.output, Nat.le_trans h.size k.size, fun i hi hn => (k.block i (Nat.lt_of_lt_of_le hi h.size) hn).trans (h.block i hi hn)⟩
theorem grown_drewN {a b : World} {row : Option Nat} (h : a.grownBy b row) (q : Nat) : a.grownBy (b.drewN q) row := ⟨h.os, h.tape, h.output, h.size, h.block⟩
theorem grown_set {a b : World} {bp o : Nat} (h : a.grownBy b (some bp)) (v : Value) : a.grownBy (b.setCell ⟨bp, o, none⟩ v) (some bp) :=
  grown_trans h ⟨rfl, rfl, rfl, by simp [World.setCell], fun k _ hn => Below.heap_setCell _ _ _ _ (fun e => hn (by rw [e]))⟩
theorem grown_below {a b : World} (h : Below a.heap.size a b) (row : Option Nat) : a.grownBy b row := ⟨h.os, h.tape, h.output, h.size, fun k hk _ => h.block k hk⟩

/-- The offset of the first byte from i on that is no blank. -/
def skipL (l : Str) (i : Nat) : Nat := i + ((l.drop i).takeWhile (· == 32)).length
/-- The offset behind the longest run of word bytes from i on. -/
def wordEnd (l : Str) (i : Nat) : Nat := i + ((l.drop i).takeWhile wb).length
/-- The byte at an offset, 0 at the end. -/
def byteAt (l : Str) (i : Nat) : UInt8 := l.getD i 0

theorem run_step {p : UInt8 → Bool} {l : Str} {k : Nat} (h : k < l.length) (hp : p l[k] = true) : k + 1 + ((l.drop (k + 1)).takeWhile p).length = k + ((l.drop k).takeWhile p).length := by
  rw [List.drop_eq_getElem_cons h, List.takeWhile_cons_of_pos hp]; simp; omega
theorem run_stop {p : UInt8 → Bool} {l : Str} {k : Nat} (h : k < l.length) (hp : p l[k] = false) : k + ((l.drop k).takeWhile p).length = k := by
  rw [List.drop_eq_getElem_cons h, List.takeWhile_cons_of_neg (by simp [hp])]; simp
theorem run_end {p : UInt8 → Bool} {l : Str} {k : Nat} (h : l.length ≤ k) : k + ((l.drop k).takeWhile p).length = k := by
  rw [List.drop_eq_nil_of_le h]; simp
theorem run_le {p : UInt8 → Bool} {l : Str} {k : Nat} (h : k ≤ l.length) : k + ((l.drop k).takeWhile p).length ≤ l.length := by
  have := (List.takeWhile_sublist p (l := l.drop k)).length_le
  simp at this; omega

theorem skip_le {l : Str} {k : Nat} (h : k ≤ l.length) : skipL l k ≤ l.length := run_le h
theorem wordEnd_le {l : Str} {k : Nat} (h : k ≤ l.length) : wordEnd l k ≤ l.length := run_le h
theorem skip_ge (l : Str) (k : Nat) : k ≤ skipL l k := by unfold skipL; omega
theorem wordEnd_ge (l : Str) (k : Nat) : k ≤ wordEnd l k := by unfold wordEnd; omega

/-- What next leaves. -/
def NextMade (w : World) (bp : Nat) (s : ByteArray) (i : Nat) (e : Ending) (w' : World) : Prop :=
  e = .returned (.int .u8 ((byteAt s.data.toList (skipL s.data.toList i)).toNat : Int)) ∧ SrcAt w' bp s (skipL s.data.toList i) ∧ w.grownBy w' (some bp)

theorem getL (s : ByteArray) (k : Nat) (h : k < s.size) : s.data.toList[k]'(by simpa using h) = s[k] := rfl
theorem byte_at (s : ByteArray) (k : Nat) (h : k < s.size) : byteAt s.data.toList k = s[k] := by
  unfold byteAt
  rw [List.getD_eq_getElem?_getD, List.getElem?_eq_getElem (by simpa using h)]; rfl
theorem byte_end (s : ByteArray) (k : Nat) (h : s.size ≤ k) : byteAt s.data.toList k = 0 := by
  unfold byteAt
  rw [List.getD_eq_getElem?_getD, List.getElem?_eq_none (by simpa using h)]; rfl
theorem skip_step {s : ByteArray} {k : Nat} (h : k < s.size) (hp : (s[k].toNat : Int) = 32) : skipL s.data.toList (k + 1) = skipL s.data.toList k :=
  run_step (p := (· == 32)) (by simpa using h) (by rw [getL s k h, beq_iff_eq]; exact UInt8.toNat_inj.1 (by simpa using (by omega : s[k].toNat = 32)))
theorem skip_stop {s : ByteArray} {k : Nat} (h : k < s.size) (hp : (s[k].toNat : Int) ≠ 32) : skipL s.data.toList k = k :=
  run_stop (p := (· == 32)) (by simpa using h) (by rw [getL s k h, beq_eq_false_iff_ne]; intro e; rw [e] at hp; exact hp rfl)
theorem skip_end {s : ByteArray} {k : Nat} (h : s.size ≤ k) : skipL s.data.toList k = k := run_end (by simpa using h)

theorem next_done {w wr : World} {bp : Nat} {s : ByteArray} {i k : Nat} {e : Ending} (hk : skipL s.data.toList k = skipL s.data.toList i) (hs : skipL s.data.toList k = k) (hr : SrcAt wr bp s k) (hg : w.grownBy wr (some bp))
    (he : e = .returned (.int .u8 ((byteAt s.data.toList k).toNat : Int))) (q : Nat) : NextMade w bp s i e (wr.drewN q) := by
  rw [hs] at hk
  unfold NextMade
  rw [← hk]
  exact ⟨he, hr.drewN q, grown_drewN hg q⟩

theorem next_any (bp : Nat) (s : ByteArray) (i : Nat) (w : World) (hs : s.size ≤ maxLen) (hi : i ≤ s.size) (h : SrcAt w bp s i) :
    Calls Try.prog 40 #[.pointer (some ⟨bp, 0, none⟩)] w (NextMade w bp s i) := by
  unfold maxLen at hs
  have H0 := Lib.hid h
  clear h
  go_enter Try.func40, Try.ntmps40
  go_wp2
  go_loopg [] (s.size - i) (fun m wr => ∃ k : Nat, m + k = s.size ∧ skipL s.data.toList k = skipL s.data.toList i ∧ SrcAt wr bp s k ∧ w.grownBy wr (some bp))
  case atStart => exact ⟨i, by omega, rfl, H0.out, grown_refl _ _⟩
  case round =>
    obtain ⟨k, hm, hsk, hr, hg⟩ := hrel
    have hk : k ≤ s.size := by omega
    have h0 := hr.c0
    have h1 := hr.c1
    have hf := hr.f1
    have HM := Lib.hid hm
    have HK := Lib.hid hsk
    clear hm hsk
    by_cases hlt : k < s.size
    · by_cases hb : (s[k].toNat : Int) = 32
      · have hB : ((s[k].toNat : Int) == 32) = true := beq_iff_eq.2 hb
        have HB := Lib.hid hb
        clear hb
        go_wp2
        go_quiet (fail)
        go_wp2
        go_roundg (s.size - (k + 1))
        case measure => have := HM.out; omega
        case rel => exact ⟨k + 1, by omega, by rw [skip_step hlt HB.out]; exact HK.out, by exact hr.set, grown_set (grown_drewN hg _) _⟩
      · have hB : ((s[k].toNat : Int) == 32) = false := beq_eq_false_iff_ne.2 hb
        have HB := Lib.hid hb
        clear hb
        have hE : ((k : Int) == (s.size : Int)) = false := beq_eq_false_iff_ne.2 (by omega)
        go_wp2
        go_quiet (fail)
        go_wp2
        go_quiet (fail)
        go_wp2
        go_quiet (fail)
        go_wp2
        go_ret
        rw [drewN_add, drewN_add]
        exact next_done HK.out (skip_stop hlt HB.out) hr hg (by rw [byte_at s k hlt]; rfl) _
    · have hE : ((k : Int) == (s.size : Int)) = true := beq_iff_eq.2 (by omega)
      have hD : decide ((k : Int) < (s.size : Int)) = false := decide_eq_false (by omega)
      go_wp2
      go_quiet (fail)
      go_wp2
      go_quiet (fail)
      go_wp2
      go_ret
      rw [drewN_add]
      exact next_done HK.out (skip_end (by omega)) hr hg (by rw [byte_end s k (by omega)]; rfl) _

theorem word_step {s : ByteArray} {k : Nat} (h : k < s.size) (hp : wb s[k] = true) : wordEnd s.data.toList (k + 1) = wordEnd s.data.toList k :=
  run_step (p := wb) (by simpa using h) (by rw [getL s k h]; exact hp)
theorem word_stop {s : ByteArray} {k : Nat} (h : k < s.size) (hp : wb s[k] = false) : wordEnd s.data.toList k = k :=
  run_stop (p := wb) (by simpa using h) (by rw [getL s k h]; exact hp)
theorem word_end {s : ByteArray} {k : Nat} (h : s.size ≤ k) : wordEnd s.data.toList k = k := run_end (by simpa using h)

/-- What word leaves. -/
def WordMade (w : World) (bp : Nat) (s : ByteArray) (i : Nat) (e : Ending) (w' : World) : Prop :=
  e = .returned (.string (s.extract i (wordEnd s.data.toList i))) ∧ SrcAt w' bp s (wordEnd s.data.toList i) ∧ w.grownBy w' (some bp)

theorem word_done {w wr : World} {bp : Nat} {s : ByteArray} {i k : Nat} {e : Ending} (hk : wordEnd s.data.toList k = wordEnd s.data.toList i) (hs : wordEnd s.data.toList k = k) (hr : SrcAt wr bp s k) (hg : w.grownBy wr (some bp))
    (he : e = .returned (.string (s.extract i k))) (q : Nat) : WordMade w bp s i e (wr.drewN q) := by
  rw [hs] at hk
  unfold WordMade
  rw [← hk]
  exact ⟨he, hr.drewN q, grown_drewN hg q⟩

theorem word_any (bp : Nat) (s : ByteArray) (i : Nat) (w : World) (hs : s.size ≤ maxLen) (hi : i ≤ s.size) (h : SrcAt w bp s i) :
    Calls Try.prog 56 #[.pointer (some ⟨bp, 0, none⟩)] w (WordMade w bp s i) := by
  unfold maxLen at hs
  have hi1 := h.c1
  have H0 := Lib.hid h
  clear h
  go_enter Try.func56, Try.ntmps56
  go_wp2
  go_loopg [] (s.size - i) (fun m wr => ∃ k : Nat, m + k = s.size ∧ i ≤ k ∧ wordEnd s.data.toList k = wordEnd s.data.toList i ∧ SrcAt wr bp s k ∧ w.grownBy wr (some bp))
  case atStart => exact ⟨i, by omega, Nat.le_refl _, rfl, H0.out, grown_refl _ _⟩
  case round =>
    clear hi1
    obtain ⟨k, hm, hik, hsk, hr, hg⟩ := hrel
    have hk : k ≤ s.size := by omega
    have h0 := hr.c0
    have h1 := hr.c1
    have hf := hr.f1
    have HM := Lib.hid hm
    have HK := Lib.hid hsk
    clear hm hsk
    by_cases hlt : k < s.size
    · have hq : ∀ wx, Calls Try.prog 37 #[.int .u8 (s[k].toNat : Int)] wx fun e w'' => e = .returned (.bool (wb s[k])) ∧ w'' = wx := fun wx => (wordByte_any s[k] wx).mono fun _ _ ⟨a, b⟩ => ⟨a, b.symm⟩
      by_cases hb : wb s[k] = true
      · rw [hb] at hq
        have HQ := Lib.hid hq
        have HB := Lib.hid hb
        clear hb hq
        go_wp2
        go_quiet ((go_at_call 37; exact Calls.quiet_of_same (HQ.out _)))
        go_wp2
        go_roundg (s.size - (k + 1))
        case measure => have := HM.out; omega
        case rel => exact ⟨k + 1, by omega, by omega, by rw [word_step hlt HB.out]; exact HK.out, by exact hr.set, grown_set (grown_drewN hg _) _⟩
      · have hb' : wb s[k] = false := by simpa using hb
        rw [hb'] at hq
        have HQ := Lib.hid hq
        have HB := Lib.hid hb'
        clear hb hb' hq
        go_wp2
        go_quiet ((go_at_call 37; exact Calls.quiet_of_same (HQ.out _)))
        go_wp2
        go_quiet (fail)
        go_wp2
        go_ret
        rw [drewN_add]
        exact word_done HK.out (word_stop hlt HB.out) hr hg rfl _
    · have hD : decide ((k : Int) < (s.size : Int)) = false := decide_eq_false (by omega)
      go_wp2
      go_quiet (fail)
      go_wp2
      go_quiet (fail)
      go_wp2
      go_ret
      rw [drewN_add]
      exact word_done HK.out (word_end (by omega)) hr hg rfl _
end Go.Proofs.Ytgolodpihmdmoaa
