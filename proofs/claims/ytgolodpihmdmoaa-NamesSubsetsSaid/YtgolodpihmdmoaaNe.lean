/-
  Chapter 02: names.Text.
-/
import Derived.Test.YtgolodpihmdmoaaNd
namespace Go.Proofs.Ytgolodpihmdmoaa
open Go.RowKit Go.Sort

theorem join_any (v : Value) (xs : List Str) (sep : Str) (w : World) (hr : Reads vs w v xs) (hN : xs.length ≤ 140737488355328) (hj : (Lib.join xs sep).length ≤ 140737488355328) :
    Calls Try.prog 39 #[v, vs sep] w fun e w' => e = .returned (vs (Lib.join xs sep)) ∧ Below w.heap.size w w' := by
  rcases hr.cases with ⟨rfl, ao, cap, rfl, hm, hn⟩ | ⟨h0, b, off, cap, rfl, hl, hm, hlt, hc⟩
  · exact (Try.strings_Join_none ao cap (toB sep) w).mono fun e w' ⟨he, hw⟩ => ⟨he, by subst hw; exact Below.refl _ _⟩
  · have hz : (xs.map toB).length = xs.length := by simp
    have hd : (xs.map toB).map (·.data.toList) = xs := by rw [List.map_map]; exact List.map_id xs
    have h := Try.strings_Join b off cap (xs.map toB) (toB sep) w
      (fun j x hx => by
        rw [List.getElem?_map] at hx
        by_cases hj : j < xs.length
        · rw [List.getElem?_eq_getElem hj] at hx
          simp at hx; subst hx
          exact hc j hj
        · rw [List.getElem?_eq_none (by omega)] at hx; simp at hx)
      hlt (by omega) (by omega) (by rw [hd]; exact hj)
    rw [hd, hz] at h
    exact h

/-- The text of a set, and the code. -/
def textL (xs : List Str) : Str × Int := if xs.all validL then ([123] ++ Lib.join (ofL xs) [44] ++ [125], 0) else ([], 3)

theorem textL_bad {xs : List Str} {k : Nat} (hk : k < xs.length) (h : validL xs[k] = false) : textL xs = ([], 3) := by
  unfold textL
  rw [if_neg]
  intro ha
  have := List.all_eq_true.1 ha xs[k] (List.getElem_mem _)
  rw [h] at this; cases this

theorem textL_good {xs : List Str} (h : ∀ x ∈ xs, validL x = true) : textL xs = ([123] ++ Lib.join (ofL xs) [44] ++ [125], 0) := by
  unfold textL
  rw [if_pos (List.all_eq_true.2 h)]

theorem toB_append (a b : Str) : toB a ++ toB b = toB (a ++ b) := by
  apply ByteArray.ext
  simp [toB, ByteArray.data_append]

def TextMade (w : World) (xs : List Str) (e : Ending) (w' : World) : Prop :=
  e = .returned (.tuple #[vs (textL xs).1, .int .i64 (textL xs).2]) ∧ Below w.heap.size w w'

theorem text_any (v : Value) (xs : List Str) (w : World) (hr : Reads vs w v xs) (hs : ∀ x ∈ xs, x.length ≤ 9223372036854775807)
    (hb : xs.length * 16 ≤ 140737488355328) (hj : (∀ x ∈ xs, validL x = true) → (Lib.join (ofL xs) [44]).length ≤ 140737488355328) :
    Calls Try.prog 16 #[v] w (TextMade w xs) := by
  have HR := Lib.hid hr
  obtain ⟨ao, cap, rfl, hl, hm, hn, hx⟩ := hr
  unfold maxLen at hm
  have HB := Lib.hid hb
  have HJ := Lib.hid hj
  have HS := Lib.hid hs
  clear hb hj hs
  go_enter Try.func16, Try.ntmps16
  go_wp2
  go_loop [8] (fun i => ∃ k : Nat, k ≤ xs.length ∧ i = .int .i64 k ∧ ∀ s ∈ xs.take k, validL s = true) (fun i => xs.length - (intOf i).toNat)
  case atStart => exact ⟨0, by omega, rfl, by simp⟩
  case round =>
    obtain ⟨k, hk, rfl, hp⟩ := hrel
    have HP := Lib.hid hp
    clear hp
    by_cases hlt : k < xs.length
    · obtain ⟨b, off, rfl, hb, hc⟩ := hx (by intro e; subst e; simp at hlt)
      have h2 : w.cell? ⟨b, off + k, none⟩ = some (.string (toB xs[k])) := hc k hlt
      clear hc hx hn
      have hv := valid_any (toB xs[k]) w (HS.out _ (List.getElem_mem _))
      rw [data_toB] at hv
      by_cases hd : validL xs[k] = true
      · rw [hd] at hv
        have HV := Lib.hid hv
        have HD := Lib.hid hd
        clear hd hv
        go_wp2_with fail
        refine HV.out.mono ?_
        rintro e w1 ⟨rfl, rfl⟩
        go_wp2
        go_round
        case rel => exact ⟨k + 1, by omega, by go_num, by rw [List.take_succ_eq_append_getElem hlt]; simp only [List.mem_append, List.mem_singleton]; exact fun s h => h.elim (HP.out s) (fun e => e ▸ HD.out)⟩
        case measure => simp [intOf]; omega
      · have hd' : validL xs[k] = false := by simpa using hd
        rw [hd'] at hv
        have HV := Lib.hid hv
        have HD := Lib.hid hd'
        clear hd hd' hv
        go_wp2_with fail
        refine HV.out.mono ?_
        rintro e w1 ⟨rfl, rfl⟩
        go_wp2
        go_ret2
        exact ⟨by rw [textL_bad hlt HD.out]; rfl, Below.refl _ _⟩
    · have HP2 : Hid (∀ s ∈ xs, validL s = true) := by
        have := HP.out
        rw [List.take_of_length_le (by omega)] at this
        exact this
      go_wp2_with fail
      refine (of_any _ xs _ HR.out HB.out).mono ?_
      rintro e w1 ⟨v1, rfl, hown, hbel⟩
      have HO := Lib.hid (And.intro hown hbel)
      clear hown hbel
      go_wp2_with fail
      refine (join_any _ (ofL xs) [44] _ (Reads.of_owns HO.out.1) (by have := ofL_length xs; have := HB.out; omega) (HJ.out HP2.out)).mono ?_
      rintro e w2 ⟨rfl, hb2⟩
      have HO2 := Lib.hid hb2
      clear hb2
      have hsz : (toB (Lib.join (ofL xs) [44])).size ≤ 140737488355328 := HJ.out HP2.out
      unfold vs
      go_wp2
      go_ret2
      refine ⟨?_, HO.out.2.trans (HO2.out.mono HO.out.2.size)⟩
      rw [textL_good HP2.out]
      unfold vs
      rw [← toB_append, ← toB_append]
      rfl
end Go.Proofs.Ytgolodpihmdmoaa
