/-
  Chapter 54: the closure of Complete, IndexFunc and ContainsFunc at it.
-/
import Derived.Test.YtnpfalloelmflaaHk
namespace Go.Proofs.Ytnpfalloelmflaa
open Go.RowKit

/-- Block gs holds the map bm, a set. -/
def SeenAt (w : World) (gs bm n : Nat) (S : List Str) : Prop := Blk w gs 49 #[.map (some bm)] ∧ SetB w bm n S
theorem SeenAt.on {w w' : World} {gs bm n : Nat} {S : List Str} (h : SeenAt w gs bm n S) (hb : Below w.heap.size w w') : SeenAt w' gs bm n S := ⟨h.1.on hb, h.2.on hb⟩
theorem seen_fn (s : Str) (gs bm n : Nat) (S : List Str) (w : World) (h : SeenAt w gs bm n S) (hl : s.length ≤ 1000000) :
    Calls Try.prog 42 #[.string (toB s), .pointer (some ⟨gs, 0, none⟩)] w fun e w' => e = .returned (.bool (decide (s ∈ S))) ∧ w = w' := by
  have c0 := h.1.cell 0
  have HS := Lib.hid h.2
  have hsl : s.length ≤ maxLen := Nat.le_trans hl (by unfold maxLen; omega)
  generalize hd : decide (s ∈ S) = d
  have HD := Lib.hid hd
  clear h hd
  go_enter Try.func42, Try.ntmps42
  go_wp2_with (refine wpList_lookup_set rfl (.tmp 4) (.tmp 5) rfl bm n S s rfl HS.out rfl hsl HD.out ?_)
  go_ret
  exact ⟨rfl, rfl⟩
def anyIn (xs S : List Str) : Bool := decide (∃ s ∈ xs, s ∈ S)
set_option maxRecDepth 100000 in
theorem seen_index (v : Value) (xs : List Str) (gs bm n : Nat) (S : List Str) (w : World) (hr : Reads vs w v xs) (h : SeenAt w gs bm n S) (hl : ∀ s ∈ xs, s.length ≤ 1000000) :
    Calls Try.prog 54 #[v, .func (.func 42) #[] #[.pointer (some ⟨gs, 0, none⟩)]] w fun e w' => ∃ i : Int, e = .returned (.int .i64 i) ∧ decide (0 ≤ i) = anyIn xs S ∧ w = w' := by
  have HR := Lib.hid hr
  have HS := Lib.hid h
  have HL := Lib.hid hl
  obtain ⟨ao, cap, rfl, hl1, hm, -, -⟩ := hr
  unfold maxLen at hm
  clear h hl
  go_enter Try.func54, Try.ntmps54
  go_wp2
  go_loop [8] (fun i => ∃ k : Nat, k ≤ xs.length ∧ i = .int .i64 k ∧ ∀ s ∈ xs.take k, s ∉ S) (fun i => xs.length - (intOf i).toNat)
  case atStart => exact ⟨0, by omega, rfl, by simp⟩
  case round =>
    obtain ⟨k, hk, rfl, hall⟩ := hrel
    have HALL := Lib.hid hall
    clear hall
    by_cases hlt : k < xs.length
    · obtain ⟨b0, off, c0, hv, hb0, hc⟩ := str_at HR.out hlt
      injection hv with e1 e2 e3
      subst e1
      have hki : (k : Int) < xs.length := by omega
      have hk0 : (0 : Int) ≤ (k : Int) := by omega
      have hcl := seen_fn xs[k] gs bm n S w HS.out (HL.out _ (List.getElem_mem hlt))
      have hsn : xs[k] ∉ S → ∀ s ∈ xs.take (k + 1), s ∉ S := fun h1 s hs => by
        rw [List.take_succ_eq_append_getElem hlt] at hs
        rcases List.mem_append.1 hs with h2 | h2
        · exact HALL.out s h2
        · rw [List.mem_singleton.1 h2]; exact h1
      have HSN := Lib.hid hsn
      have HMEM := Lib.hid (List.getElem_mem hlt)
      unfold vs at hc
      clear e2 e3 hsn
      generalize xs[k] = s at *
      by_cases hin : s ∈ S
      · rw [decide_eq_true hin] at hcl
        have HC := Lib.hid hcl
        have HE : Hid (anyIn xs S = true) := Lib.hid (decide_eq_true ⟨s, HMEM.out, hin⟩)
        clear hcl hin
        go_wp2_with fail
        refine HC.out.mono ?_
        rintro e w1 ⟨rfl, rfl⟩
        go_wp2
        go_ret
        exact ⟨_, rfl, by rw [HE.out]; exact decide_eq_true (by omega), rfl⟩
      · rw [decide_eq_false hin] at hcl
        have HC := Lib.hid hcl
        have HI := Lib.hid hin
        clear hcl hin
        go_wp2_with fail
        refine HC.out.mono ?_
        rintro e w1 ⟨rfl, rfl⟩
        go_wp2
        go_round
        case rel => exact ⟨k + 1, by omega, by go_num, HSN.out HI.out⟩
        case measure => simp [intOf]; omega
    · have HE : Hid (anyIn xs S = false) := Lib.hid (decide_eq_false fun ⟨s, h1, h2⟩ => by
        have h3 := HALL.out
        rw [List.take_of_length_le (by omega)] at h3
        exact h3 s h1 h2)
      go_wp2
      go_ret
      exact ⟨_, rfl, by rw [HE.out]; rfl, rfl⟩
theorem seen_contains (v : Value) (xs : List Str) (gs bm n : Nat) (S : List Str) (w : World) (hr : Reads vs w v xs) (h : SeenAt w gs bm n S) (hl : ∀ s ∈ xs, s.length ≤ 1000000) :
    Calls Try.prog 41 #[v, .func (.func 42) #[] #[.pointer (some ⟨gs, 0, none⟩)]] w fun e w' => e = .returned (.bool (anyIn xs S)) ∧ w = w' := by
  go_enter Try.func41, Try.ntmps41
  go_wp2_with fail
  refine (seen_index v xs gs bm n S _ hr h hl).mono ?_
  rintro e w1 ⟨i, rfl, hf, rfl⟩
  have HF := Lib.hid hf
  clear hf hr h hl
  by_cases h : 0 ≤ i
  · have HD := Lib.hid (HF.out.symm.trans (decide_eq_true h))
    go_wp2
    go_ret
    exact ⟨ret_bool HD.out.symm, rfl⟩
  · have h2 : i < 0 := by omega
    go_wp2
    go_ret
    exact ⟨ret_bool HF.out, rfl⟩
end Go.Proofs.Ytnpfalloelmflaa
