/-
  Chapter 02: names.Parse.
-/
import Derived.Test.YtgolodpihmdmoaaNg
namespace Go.Proofs.Ytgolodpihmdmoaa
open Go.RowKit Go.Sort

theorem membersF_le {l : Str} : ∀ (f i : Nat) (out : List Str), i ≤ l.length → (membersF f l i out).2.2 ≤ l.length
  | 0, i, out, h => Nat.zero_le _
  | f + 1, i, out, h => by
    have h1 := skip_le (l := l) (k := i) h
    have h2 := wordEnd_le (l := l) h1
    have h3 := skip_le (l := l) h2
    rw [membersF]
    repeat' split
    · rename_i hc
      exact membersF_le f _ _ (byteAt_lt (by rw [hc]; decide))
    · rename_i hc
      exact byteAt_lt (l := l) (by rw [hc]; decide)
    · exact h3
    · exact h1
    · exact h1

theorem membersL_le {l : Str} {i : Nat} (h : i ≤ l.length) : (membersL l i).2.2 ≤ l.length := by
  unfold membersL
  have h1 := skip_le (l := l) (k := i) h
  split
  · rename_i hc
    exact byteAt_lt (l := l) (by rw [hc]; decide)
  · exact membersF_le _ _ _ h1

theorem membersF_len {l : Str} : ∀ (f i : Nat) (out : List Str), i ≤ l.length → out.length ≤ i → (membersF f l i out).1.length ≤ l.length
  | 0, i, out, h, ho => Nat.zero_le _
  | f + 1, i, out, h, ho => by
    have h1 := skip_le (l := l) (k := i) h
    have h2 := wordEnd_le (l := l) h1
    have h3 := skip_le (l := l) h2
    have g1 := skip_ge l i
    have g2 := wordEnd_ge l (skipL l i)
    have g3 := skip_ge l (wordEnd l (skipL l i))
    rw [membersF]
    repeat' split
    · rename_i hc
      exact membersF_len f _ _ (byteAt_lt (by rw [hc]; decide)) (by simp; omega)
    · rename_i hc
      have := byteAt_lt (l := l) (i := skipL l (wordEnd l (skipL l i))) (by rw [hc]; decide)
      simp; omega
    · simp
    · simp
    · simp

theorem membersL_len {l : Str} {i : Nat} (h : i ≤ l.length) : (membersL l i).1.length ≤ l.length := by
  unfold membersL
  have h1 := skip_le (l := l) (k := i) h
  split
  · simp
  · exact membersF_len _ _ _ h1 (by simp)

/-- What Parse comes to: the set, the offset, the code. -/
def parseL (l : Str) : List Str × Int × Int :=
  if byteAt l (skipL l 0) = 123 then
    if (membersL l (skipL l 0 + 1)).2.1 = 0 then
      if skipL l (membersL l (skipL l 0 + 1)).2.2 < l.length then ([], skipL l (membersL l (skipL l 0 + 1)).2.2, 2)
      else (ofL (membersL l (skipL l 0 + 1)).1, 0, 0)
    else ([], (membersL l (skipL l 0 + 1)).2.2, (membersL l (skipL l 0 + 1)).2.1)
  else ([], skipL l 0, 2)

def ParseMade (w : World) (R : List Str × Int × Int) (e : Ending) (w' : World) : Prop :=
  ∃ v, e = .returned (.tuple #[v, .int .i64 R.2.1, .int .i64 R.2.2]) ∧ Reads vs w' v R.1 ∧ Below w.heap.size w w'

theorem srcAt_new (w : World) (s : ByteArray) : SrcAt (w.alloc (.cells #[.string s, .int .i64 0] 50)) w.heap.size s 0 := heap_alloc_new w _
theorem below_new {w w' : World} {o : Obj} (h : (w.alloc o).grownBy w' (some w.heap.size)) : Below w.heap.size w w' :=
  ⟨h.os, h.tape, h.output, Nat.le_trans (by simp) h.size, fun k hk => (h.block k (by simp; omega) (by simp; omega)).trans (Below.heap_alloc _ _ _ hk)⟩

theorem below_drewN' {B : Nat} {w w' : World} (h : Below B w w') (q : Nat) : Below B w (w'.drewN q) := h.trans (below_drewN q)

theorem parse_any (s : ByteArray) (w : World) (hs : s.size ≤ 1000000) :
    Calls Try.prog 18 #[.string s] w (ParseMade w (parseL s.data.toList)) := by
  have hsm : s.size ≤ maxLen := by unfold maxLen; omega
  have hle : skipL s.data.toList 0 ≤ s.size := skip_le (l := s.data.toList) (Nat.zero_le _)
  have hn1 := next_any w.heap.size s 0 _ hsm (Nat.zero_le _) (srcAt_new w s)
  unfold NextMade at hn1
  have HN := Lib.hid hn1
  clear hn1
  have hP : parseL s.data.toList = parseL s.data.toList := rfl
  conv at hP => rhs; unfold parseL
  have hML : skipL s.data.toList 0 + 1 ≤ s.size → (membersL s.data.toList (skipL s.data.toList 0 + 1)).2.2 ≤ s.size := fun h => membersL_le (l := s.data.toList) h
  have hlen : skipL s.data.toList 0 + 1 ≤ s.size → (membersL s.data.toList (skipL s.data.toList 0 + 1)).1.length ≤ s.size := fun h => membersL_len (l := s.data.toList) h
  have hcl : byteAt s.data.toList (skipL s.data.toList 0) = 123 → skipL s.data.toList 0 + 1 ≤ s.size := fun h => by
    have := byteAt_lt (l := s.data.toList) (i := skipL s.data.toList 0) (by rw [h]; decide)
    exact this
  generalize hjj : skipL s.data.toList 0 = j at *
  generalize hcc : byteAt s.data.toList j = cc at *
  have HJ := Lib.hid (And.intro hjj hcc)
  have HP := Lib.hid hP
  clear hjj hcc hP
  go_enter Try.func18, Try.ntmps18
  go_wp2_with fail
  refine HN.out.mono ?_
  rintro e w1 ⟨rfl, hr1, hg1⟩
  have c1 := hr1.c1
  have f1 := hr1.f1
  have H1 := Lib.hid (And.intro hr1 hg1)
  clear hr1 hg1
  by_cases hc : cc = 123
  · have hB : ((cc.toNat : Int) != 123) = false := by have := byte_eq (d := 123) hc; show (!((cc.toNat : Int) == 123)) = false; rw [show ((cc.toNat : Int) == 123) = true from this]; rfl
    have hB2 : ((cc.toNat : Int) == 123) = true := byte_eq (d := 123) hc
    have hj1 := hcl hc
    have hml := hML hj1
    have hmn := hlen hj1
    have HC := Lib.hid hc
    clear hML hcl hc hlen
    go_wp2_with fail
    refine (members_any w.heap.size s (j + 1) _ hs hj1 (by exact H1.out.1.set)).mono ?_
    rintro e w2 ⟨v2, rfl, hr2, hg2, hown2⟩
    have hRR : parseL s.data.toList = if (membersL s.data.toList (j + 1)).2.1 = 0 then
      if skipL s.data.toList (membersL s.data.toList (j + 1)).2.2 < s.data.toList.length then ([], (skipL s.data.toList (membersL s.data.toList (j + 1)).2.2 : Int), (2 : Int))
      else (ofL (membersL s.data.toList (j + 1)).1, (0 : Int), (0 : Int))
      else ([], ((membersL s.data.toList (j + 1)).2.2 : Int), (membersL s.data.toList (j + 1)).2.1) := by rw [HP.out, if_pos HC.out]
    have hn2 := next_any w.heap.size s (membersL s.data.toList (j + 1)).2.2 w2 hsm hml hr2
    unfold NextMade at hn2
    generalize membersL s.data.toList (j + 1) = M at *
    obtain ⟨out, er, at2⟩ := M
    simp only at hml hr2 hg2 hown2 hn2 hRR hmn
    have c2 := hr2.c1
    have f2 := hr2.f1
    have g2 := grown_trans (grown_set (o := 1) H1.out.2 (.int .i64 ((j + 1 : Nat) : Int))) hg2
    have H2 := Lib.hid (And.intro hr2 (And.intro g2 hown2))
    have HN2 := Lib.hid hn2
    have HR := Lib.hid hRR
    clear hr2 hg2 hown2 hn2 c1 f1 g2 hRR
    by_cases he : er = 0
    · subst he
      go_wp2_with fail
      refine HN2.out.mono ?_
      rintro e w3 ⟨rfl, hr3, hg3⟩
      have hk3 : skipL s.data.toList at2 ≤ s.size := skip_le (l := s.data.toList) hml
      generalize hkk : skipL s.data.toList at2 = k at *
      have HK := Lib.hid hkk
      have c3 := hr3.c1
      have H3 := Lib.hid (And.intro hr3 hg3)
      clear hr3 hg3 c2 f2 hkk
      by_cases hk : k < s.size
      · go_wp2
        go_quiet (fail)
        go_wp2
        go_ret3
        rw [HR.out, if_true, if_pos (by simpa using hk)]
        exact ⟨_, rfl, Reads.nil _, below_drewN' (below_new (grown_trans H2.out.2.1 H3.out.2)) _⟩
      · have hown3 := H2.out.2.2.kept H3.out.2 (.inr (own_ne H2.out.2.2 (by exact (H1.out.1.set (j := j + 1)).lt)))
        have HO := Lib.hid hown3
        clear hown3
        go_wp2_with fail
        refine (of_any _ out _ (Reads.of_owns HO.out) (by omega)).mono ?_
        rintro e w4 ⟨v4, rfl, hown4, hb4⟩
        have H4 := Lib.hid (And.intro hown4 hb4)
        clear hown4 hb4
        go_wp2
        go_ret3
        rw [HR.out, if_true, if_neg (by simpa using hk)]
        exact ⟨_, rfl, Reads.of_owns H4.out.1, (below_new (grown_trans H2.out.2.1 H3.out.2)).trans (H4.out.2.mono (below_new (grown_trans H2.out.2.1 H3.out.2)).size)⟩
    · have hB3 : (er != 0) = true := by simpa using he
      have hB4 : (er == 0) = false := by simpa using he
      have HEr := Lib.hid he
      clear he
      go_wp2
      go_quiet (fail)
      go_wp2
      go_ret3
      rw [HR.out, if_neg HEr.out]
      exact ⟨_, rfl, Reads.nil _, below_drewN' (below_new H2.out.2.1) _⟩
  · have hB : ((cc.toNat : Int) != 123) = true := by have := byte_ne (d := 123) hc; show (!((cc.toNat : Int) == 123)) = true; rw [show ((cc.toNat : Int) == 123) = false from this]; rfl
    have hB2 : ((cc.toNat : Int) == 123) = false := byte_ne (d := 123) hc
    have HC := Lib.hid hc
    clear hc hML hcl hlen
    go_wp2
    go_quiet (fail)
    go_wp2
    go_ret3
    rw [HP.out, if_neg HC.out]
    exact ⟨_, rfl, Reads.nil _, below_drewN' (below_new H1.out.2) _⟩
end Go.Proofs.Ytgolodpihmdmoaa
