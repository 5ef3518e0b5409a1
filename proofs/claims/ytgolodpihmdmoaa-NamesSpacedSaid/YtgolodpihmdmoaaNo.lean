/-
  Chapter 02: the reference's Parse.
-/
import Derived.Test.YtgolodpihmdmoaaNn
namespace Go.Proofs.Ytgolodpihmdmoaa
open Go.RowKit Go.Sort

theorem takeWhile_next (p : UInt8 → Bool) : ∀ (m : List UInt8) (c : UInt8), m[(m.takeWhile p).length]? = some c → p c = false
  | [], c, h => by simp at h
  | d :: r, c, h => by
    by_cases hd : p d = true
    · have e : (d :: r).takeWhile p = d :: r.takeWhile p := List.takeWhile_cons_of_pos hd
      rw [e] at h
      exact takeWhile_next p r c (by simpa using h)
    · have e : (d :: r).takeWhile p = [] := List.takeWhile_cons_of_neg hd
      rw [e] at h
      simp at h
      subst h
      simpa using hd

theorem skip_skip (l : Str) (i : Nat) (_h : i ≤ l.length) : skipL l (skipL l i) = skipL l i := by
  rcases Nat.lt_or_ge (skipL l i) l.length with h1 | h1
  · refine run_stop h1 (takeWhile_next (· == 32) (l.drop i) _ ?_)
    rw [List.getElem?_drop]
    exact List.getElem?_eq_getElem h1
  · exact run_end h1

theorem skip_any (s : ByteArray) (i : Nat) (n : Int) (w : World) (hn : n = (i : Int)) (hs : s.size ≤ maxLen) (hi : i ≤ s.size) :
    Calls Try.prog 45 #[.string s, .int .i64 n] w fun e w' => e = .returned (.int .i64 (skipL s.data.toList i)) ∧ w = w' := by
  subst hn
  unfold maxLen at hs
  go_enter Try.func45, Try.ntmps45
  go_wp2
  go_loop [1] (fun i' => ∃ k : Nat, k ≤ s.size ∧ i' = .int .i64 k ∧ skipL s.data.toList k = skipL s.data.toList i) (fun i' => s.size - (intOf i').toNat)
  case atStart => exact ⟨i, hi, rfl, rfl⟩
  case round =>
    obtain ⟨k, hk, rfl, hsk⟩ := hrel
    have HK := Lib.hid hsk
    clear hsk
    by_cases hlt : k < s.size
    · by_cases hb : (s[k].toNat : Int) = 32
      · have hB : ((s[k].toNat : Int) == 32) = true := beq_iff_eq.2 hb
        have HB := Lib.hid hb
        clear hb
        go_wp2
        go_round
        case rel => exact ⟨k + 1, by omega, by go_num, by rw [skip_step hlt HB.out]; exact HK.out⟩
        case measure => simp [intOf]; omega
      · have hB : ((s[k].toNat : Int) == 32) = false := beq_eq_false_iff_ne.2 hb
        have HB := Lib.hid hb
        clear hb
        go_wp2
        go_ret
        exact ⟨by rw [← HK.out, skip_stop hlt HB.out]; rfl, rfl⟩
    · go_wp2
      go_ret
      exact ⟨by rw [← HK.out, skip_end (by omega)]; rfl, rfl⟩

/-- What is left to do behind the members. -/
def finish (l : Str) (M : List Str × Int × Nat) : List Str × Int × Int :=
  if M.2.1 = 0 then if skipL l M.2.2 < l.length then ([], (skipL l M.2.2 : Int), (2 : Int)) else (ofL M.1, (0 : Int), (0 : Int)) else ([], (M.2.2 : Int), M.2.1)

theorem parseL_finish (l : Str) : parseL l = if byteAt l (skipL l 0) = 123 then finish l (membersL l (skipL l 0 + 1)) else ([], (skipL l 0 : Int), (2 : Int)) := rfl

theorem end_any (s : ByteArray) (i : Nat) (n : Int) (v : Value) (xs : List Str) (w : World) (hn : n = (i : Int)) (hs : s.size ≤ 1000000) (hi : i ≤ s.size) (hr : Reads vs w v xs) (hx : xs.length ≤ 1000000) :
    Calls Try.prog 46 #[.string s, .int .i64 n, v] w (ParseMade w (finish s.data.toList (xs, 0, i))) := by
  have hsm : s.size ≤ maxLen := by unfold maxLen; omega
  have hsk := skip_any s i n w hn hsm hi
  have hle : skipL s.data.toList i ≤ s.size := skip_le (l := s.data.toList) hi
  have hF : finish s.data.toList (xs, 0, i) = if skipL s.data.toList i < s.size then ([], (skipL s.data.toList i : Int), (2 : Int)) else (ofL xs, (0 : Int), (0 : Int)) := rfl
  have HR := Lib.hid hr
  clear hr hn
  generalize skipL s.data.toList i = k at *
  have HS := Lib.hid hsk
  by_cases hk : k < s.size
  · rw [if_pos hk] at hF
    have HF := Lib.hid hF
    clear hF hsk
    go_enter Try.func46, Try.ntmps46
    go_wp2_with fail
    refine HS.out.mono ?_
    rintro e w1 ⟨rfl, rfl⟩
    go_wp2
    go_ret3
    rw [HF.out]
    exact ⟨_, rfl, Reads.nil _, Below.refl _ _⟩
  · rw [if_neg hk] at hF
    have HF := Lib.hid hF
    clear hF hsk
    go_enter Try.func46, Try.ntmps46
    go_wp2_with fail
    refine HS.out.mono ?_
    rintro e w1 ⟨rfl, rfl⟩
    go_wp2_with fail
    refine (rof_any v xs _ HR.out hx).mono ?_
    rintro e w1 ⟨v1, rfl, hown, hb⟩
    have H1 := Lib.hid (And.intro hown hb)
    clear hown hb
    go_wp2
    go_ret3
    rw [HF.out]
    exact ⟨_, rfl, Reads.of_owns H1.out.1, H1.out.2⟩

theorem membersF_skip (f : Nat) (l : Str) (i : Nat) (out : List Str) (h : i ≤ l.length) : membersF f l (skipL l i) out = membersF f l i out := by
  cases f with
  | zero => rfl
  | succ f => rw [membersF, membersF, skip_skip l i h]
end Go.Proofs.Ytgolodpihmdmoaa
