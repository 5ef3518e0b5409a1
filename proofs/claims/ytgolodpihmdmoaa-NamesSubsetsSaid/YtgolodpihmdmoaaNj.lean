/-
  Chapter 02: awake: the chapter's examples.
-/
import Derived.Test.YtgolodpihmdmoaaNi
namespace Go.Proofs.Ytgolodpihmdmoaa
open Go.RowKit Go.Sort

theorem reads_lit {w : World} {b : Nat} {xs : List Str} {cells : Array Value} {e : TypeId} {fr : Nat × Nat} (h : w.heap[b]? = some (.cells cells e fr)) (hc : cells = (xs.map vs).toArray) (hm : xs.length ≤ maxLen) : Reads vs w (.slice (some ⟨b, 0, none⟩) xs.length xs.length) xs := by
  have hlt : b < w.heap.size := by
    rcases Nat.lt_or_ge b w.heap.size with h' | h'
    · exact h'
    · rw [Array.getElem?_eq_none h'] at h; cases h
  refine Reads.at (Nat.le_refl _) hm hlt fun j hj => ?_
  subst hc
  simp [World.cell?, h, hj]

theorem ofL_ba : ofL [[98], [97]] = [[97], [98]] := ofL_eq (by decide) (by intro s; simp only [List.mem_cons, List.not_mem_nil, or_false]; exact Or.comm)
theorem ofL_bab : ofL [[98], [97], [98]] = [[97], [98]] := ofL_eq (by decide) (by intro s; simp only [List.mem_cons, List.not_mem_nil, or_false]; constructor <;> intro h <;> rcases h with h | h <;> simp_all)
theorem text_bab : textL [[98], [97], [98]] = ([123, 97, 44, 98, 125], 0) := by
  unfold textL
  rw [if_pos (by decide), ofL_bab]; rfl
theorem parse_ex1 : parseL [32, 123, 32, 98, 32, 44, 32, 97, 32, 125, 32] = ([[97], [98]], 0, 0) := by
  have h1 : byteAt [32, 123, 32, 98, 32, 44, 32, 97, 32, 125, 32] (skipL [32, 123, 32, 98, 32, 44, 32, 97, 32, 125, 32] 0) = 123 := by decide
  have h2 : membersL [32, 123, 32, 98, 32, 44, 32, 97, 32, 125, 32] (skipL [32, 123, 32, 98, 32, 44, 32, 97, 32, 125, 32] 0 + 1) = ([[98], [97]], 0, 10) := by decide +kernel
  unfold parseL
  rw [if_pos h1, h2, if_pos rfl, if_neg (by decide), ofL_ba]
theorem parse_ex2 : parseL [123, 97, 44, 125] = ([], 3, 2) := by
  have h1 : byteAt [123, 97, 44, 125] (skipL [123, 97, 44, 125] 0) = 123 := by decide
  have h2 : membersL [123, 97, 44, 125] (skipL [123, 97, 44, 125] 0 + 1) = ([], 2, 3) := by decide +kernel
  unfold parseL
  rw [if_pos h1, h2, if_neg (by decide)]; rfl
theorem parse_ex3 : parseL [123, 97, 44, 57, 125] = ([], 3, 3) := by
  have h1 : byteAt [123, 97, 44, 57, 125] (skipL [123, 97, 44, 57, 125] 0) = 123 := by decide
  have h2 : membersL [123, 97, 44, 57, 125] (skipL [123, 97, 44, 57, 125] 0 + 1) = ([], 3, 3) := by decide +kernel
  unfold parseL
  rw [if_pos h1, h2, if_neg (by decide)]; rfl

theorem valid_ex1 : validL [97, 45, 49] = true := by decide
theorem valid_ex2 : validL [49, 97] = false := by decide

def Awake (w : World) (e : Ending) (w' : World) : Prop := e = .returned (.bool true) ∧ Below w.heap.size w w'

theorem awake_any (w : World) : Calls Try.prog 12 #[] w (Awake w) := by
  go_enter Try.func12, Try.ntmps12
  go_wp2_with fail
  refine (text_any _ [[98], [97], [98]] _ (reads_lit (heap_alloc_new w _) rfl (by simp [maxLen])) (by simp) (by simp) (by rw [ofL_bab]; intro _; decide)).mono ?_
  rintro e w1 ⟨rfl, hb1⟩
  rw [text_bab]
  have B1 := Lib.hid (((Below.refl w.heap.size w).alloc (Nat.le_refl _) _).trans (hb1.mono (by simp)))
  clear hb1
  go_wp2_with fail
  refine (parse_any ⟨#[32, 123, 32, 98, 32, 44, 32, 97, 32, 125, 32]⟩ _ (by decide)).mono ?_
  rintro e w2 ⟨v2, rfl, hr2, hb2⟩
  rw [parse_ex1] at hr2
  rw [parse_ex1]
  have B2 := Lib.hid (B1.out.trans (hb2.mono B1.out.size))
  have R2 := Lib.hid hr2
  clear hb2 hr2
  go_wp2_with fail
  refine (parse_any ⟨#[123, 97, 44, 125]⟩ _ (by decide)).mono ?_
  rintro e w3 ⟨v3, rfl, _, hb3⟩
  rw [parse_ex2]
  have B3 := Lib.hid (B2.out.trans (hb3.mono B2.out.size))
  have R3 := Lib.hid (R2.out.keep hb3)
  clear hb3
  go_wp2_with fail
  refine (parse_any ⟨#[123, 97, 44, 57, 125]⟩ _ (by decide)).mono ?_
  rintro e w4 ⟨v4, rfl, _, hb4⟩
  rw [parse_ex3]
  have B4 := Lib.hid (B3.out.trans (hb4.mono B3.out.size))
  have R4 := Lib.hid (R3.out.keep hb4)
  clear hb4
  unfold vs
  have hT : ((toB [123, 97, 44, 98, 125]).toList == [123, 97, 44, 98, 125]) = true := by rw [toList_toB]; rfl
  go_wp2_with fail
  refine (rsame_any _ _ [[97], [98]] [[97], [98]] _ (R4.out.keep ((Below.refl _ _).alloc (Nat.le_refl _) _)) (reads_lit (heap_alloc_new w4 _) rfl (by simp [maxLen]))).mono ?_
  rintro e w5 ⟨rfl, hd5⟩
  have B5 := Lib.hid ((B4.out.alloc B4.out.size (.cells #[Value.string { data := #[97] }, Value.string { data := #[98] }] 9)).trans hd5.below)
  clear hd5
  go_wp2_with fail
  refine (valid_any ⟨#[97, 45, 49]⟩ _ (by decide)).mono ?_
  rintro e w6 ⟨rfl, rfl⟩
  rw [show validL (ByteArray.mk #[97, 45, 49]).data.toList = true from valid_ex1]
  go_wp2_with fail
  refine (valid_any ⟨#[49, 97]⟩ _ (by decide)).mono ?_
  rintro e w6 ⟨rfl, rfl⟩
  rw [show validL (ByteArray.mk #[49, 97]).data.toList = false from valid_ex2]
  go_wp2
  go_ret
  exact ⟨rfl, B5.out⟩
end Go.Proofs.Ytgolodpihmdmoaa
