/-
  Chapter 02: the reference's Text and Parse.
-/
import Derived.Test.YtgolodpihmdmoaaNm
namespace Go.Proofs.Ytgolodpihmdmoaa
open Go.RowKit Go.Sort

/-- What Text has built after k elements. -/
def curL (L : List Str) (k : Nat) : Str := [123] ++ Lib.join (L.take k) [44]

theorem join_snoc (L : List Str) (k : Nat) (h : k < L.length) : Lib.join (L.take (k + 1)) [44] = if k = 0 then L[k] else Lib.join (L.take k) [44] ++ [44] ++ L[k] := by
  cases L with
  | nil => simp at h
  | cons x r =>
    cases k with
    | zero => simp [Lib.join_one]
    | succ k =>
      rw [if_neg (by omega), List.take_succ_cons, List.take_succ_cons, Lib.join_cons, Lib.join_cons, Lib.joinTail_take_succ [44] r k ((x :: r)[k + 1]) (by simp)]
      simp [List.append_assoc]

theorem valid_len {l : Str} (h : validL l = true) : l.length ≤ 16 := by
  rcases Nat.lt_or_ge 16 l.length with h' | h'
  · rw [validL_bad (.inr h')] at h; cases h
  · exact h'

theorem cur_zero (L : List Str) : curL L 0 = [123] := rfl
theorem cur_succ {L : List Str} {k : Nat} (h : k < L.length) : curL L (k + 1) = if k = 0 then curL L k ++ L[k] else curL L k ++ [44] ++ L[k] := by
  unfold curL
  rw [join_snoc L k h]
  split
  · rename_i h0; subst h0; rfl
  · simp [List.append_assoc]
theorem cur_len {L : List Str} : ∀ (k : Nat), k ≤ L.length → (∀ s ∈ L.take k, validL s = true) → (curL L k).length ≤ 1 + 17 * k
  | 0, _, _ => by simp [cur_zero]
  | k + 1, h, hv => by
    have h1 := cur_len (L := L) k (by omega) (fun s hs => hv s (by rw [List.take_succ_eq_append_getElem (by omega)]; exact List.mem_append_left _ hs))
    have h2 := valid_len (hv L[k] (by rw [List.take_succ_eq_append_getElem (by omega)]; exact List.mem_append_right _ (List.mem_singleton.2 rfl)))
    rw [cur_succ (by omega)]
    split <;> simp <;> omega

theorem text_of_ofL_bad {xs : List Str} {k : Nat} (hk : k < (ofL xs).length) (h : validL (ofL xs)[k] = false) : textL xs = ([], 3) := by
  unfold textL
  rw [if_neg]
  intro ha
  have := List.all_eq_true.1 ha (ofL xs)[k] ((mem_ofL xs _).1 (List.getElem_mem _))
  rw [h] at this; cases this

set_option maxHeartbeats 1000000 in
theorem rtext_any (v : Value) (xs : List Str) (w : World) (hr : Reads vs w v xs) (hn : xs.length ≤ 1000000) (hs : ∀ x ∈ xs, x.length ≤ 9223372036854775807) :
    Calls Try.prog 17 #[v] w (TextMade w xs) := by
  have hS : ∀ x ∈ ofL xs, x.length ≤ 9223372036854775807 := fun x hx => hs x ((mem_ofL xs x).1 hx)
  have hbad := fun k => @text_of_ofL_bad xs k
  have hgood : (∀ x ∈ ofL xs, validL x = true) → textL xs = (curL (ofL xs) (ofL xs).length ++ [125], 0) := fun h => by
    rw [textL_good (fun x hx => h x ((mem_ofL xs x).2 hx))]
    unfold curL
    rw [List.take_length]
  have hlen := ofL_length xs
  have HS := Lib.hid (And.intro hS (And.intro hbad hgood))
  clear hS hs hbad hgood
  go_enter Try.func17, Try.ntmps17
  go_wp2_with fail
  refine (rof_any v xs _ hr hn).mono ?_
  rintro e w1 ⟨v1, rfl, hown, hb⟩
  have hr1 := Reads.of_owns hown
  have HB := Lib.hid hb
  clear hown hb hr
  generalize ofL xs = L at *
  obtain ⟨ao, cap, rfl, hl, hm, hno, hx⟩ := hr1
  unfold maxLen at hm
  go_wp2
  go_loop [6, 5] (fun i s => ∃ k : Nat, k ≤ L.length ∧ i = .int .i64 k ∧ s = .string (toB (curL L k)) ∧ ∀ s ∈ L.take k, validL s = true) (fun i _ => L.length - (intOf i).toNat)
  case atStart => exact ⟨0, by omega, rfl, rfl, by simp⟩
  case round =>
    obtain ⟨k, hk, rfl, rfl, hp⟩ := hrel
    have hcl := cur_len k hk hp
    have hsz : (toB (curL L k)).size ≤ 1 + 17 * k := hcl
    have HP := Lib.hid hp
    clear hp hcl
    by_cases hlt : k < L.length
    · obtain ⟨b, off, rfl, hb, hc⟩ := hx (by intro e; subst e; simp at hlt)
      have h2 : w1.cell? ⟨b, off + k, none⟩ = some (.string (toB L[k])) := hc k hlt
      clear hc hx hno
      have hv := rvalid_any (toB L[k]) w1 (HS.out.1 _ (List.getElem_mem _))
      rw [data_toB] at hv
      by_cases hd : validL L[k] = true
      · rw [hd] at hv
        have hxl := valid_len hd
        have hxs : (toB L[k]).size ≤ 16 := hxl
        have HV := Lib.hid hv
        have HD := Lib.hid hd
        have HC := Lib.hid (cur_succ hlt)
        clear hd hv hxl
        by_cases h0 : k = 0
        · have h0' : ¬ ((0 : Int) < (k : Int)) := by omega
          have H0 := Lib.hid h0
          clear h0
          go_wp2_with fail
          refine HV.out.mono ?_
          rintro e w2 ⟨rfl, rfl⟩
          go_wp2
          go_round
          case rel => exact ⟨k + 1, by omega, by go_num, by rw [HC.out, if_pos H0.out, ← toB_append], by rw [List.take_succ_eq_append_getElem hlt]; simp only [List.mem_append, List.mem_singleton]; exact fun s h => h.elim (HP.out s) (fun e => e ▸ HD.out)⟩
          case measure => simp [intOf]; omega
        · have h0' : (0 : Int) < (k : Int) := by omega
          have H0 := Lib.hid h0
          clear h0
          go_wp2_with fail
          refine HV.out.mono ?_
          rintro e w2 ⟨rfl, rfl⟩
          go_wp2
          go_round
          case rel => exact ⟨k + 1, by omega, by go_num, by rw [HC.out, if_neg H0.out, ← toB_append, ← toB_append]; rfl, by rw [List.take_succ_eq_append_getElem hlt]; simp only [List.mem_append, List.mem_singleton]; exact fun s h => h.elim (HP.out s) (fun e => e ▸ HD.out)⟩
          case measure => simp [intOf]; omega
      · have hd' : validL L[k] = false := by simpa using hd
        rw [hd'] at hv
        have HV := Lib.hid hv
        have HD := Lib.hid (HS.out.2.1 k hlt hd')
        clear hd hd' hv
        go_wp2_with fail
        refine HV.out.mono ?_
        rintro e w2 ⟨rfl, rfl⟩
        go_wp2
        go_ret2
        unfold TextMade
        rw [HD.out]
        exact ⟨rfl, HB.out⟩
    · have hkl : k = L.length := by omega
      have HG : Hid (textL xs = (curL L k ++ [125], 0)) := by
        have hp := HP.out
        rw [List.take_of_length_le (by omega)] at hp
        rw [hkl]
        exact HS.out.2.2 hp
      clear hkl
      go_wp2
      go_ret2
      unfold TextMade
      rw [HG.out]
      refine ⟨?_, HB.out⟩
      unfold vs
      rw [← toB_append]
      rfl
end Go.Proofs.Ytgolodpihmdmoaa
