/-
  NamesAlgebra: for every three lists the law returns true, and the lists read behind the call as before. No condition.
-/
import Derived.Test.YtgolodpihmdmoaaNl
import Derived.Test.YtgolodpihmdmoaaLp
namespace Go.Proofs.Ytgolodpihmdmoaa.namesAlgebra
open Go.ChangeShapes Go.WideShapes Go.ChangeAt Go.RowKit

def uni (xs ys : List Str) : List Str := mergeL true true true (ofL xs) (ofL ys)
def int (xs ys : List Str) : List Str := mergeL false true false (ofL xs) (ofL ys)
def min (xs ys : List Str) : List Str := mergeL true false false (ofL xs) (ofL ys)
theorem mem_uni (xs ys : List Str) (s : Str) : s ∈ uni xs ys ↔ s ∈ xs ∨ s ∈ ys := by
  unfold uni; rw [mergeL_mem]
  by_cases h1 : s ∈ xs <;> by_cases h2 : s ∈ ys <;> simp [h1, h2]
theorem mem_int (xs ys : List Str) (s : Str) : s ∈ int xs ys ↔ s ∈ xs ∧ s ∈ ys := by
  unfold int; rw [mergeL_mem]
  by_cases h1 : s ∈ xs <;> by_cases h2 : s ∈ ys <;> simp [h1, h2]
theorem mem_min (xs ys : List Str) (s : Str) : s ∈ min xs ys ↔ s ∈ xs ∧ s ∉ ys := by
  unfold min; rw [mergeL_mem]
  by_cases h1 : s ∈ xs <;> by_cases h2 : s ∈ ys <;> simp [h1, h2]
theorem uni_len (xs ys : List Str) : (uni xs ys).length ≤ xs.length + ys.length := mergeL_len _ _ _ _ _
theorem int_len (xs ys : List Str) : (int xs ys).length ≤ xs.length + ys.length := mergeL_len _ _ _ _ _
theorem min_len (xs ys : List Str) : (min xs ys).length ≤ xs.length + ys.length := mergeL_len _ _ _ _ _
theorem law1 (a b c : List Str) : int a (uni b c) = uni (int a b) (int a c) :=
  sorted_unique _ _ (mergeL_sorted _ _ _ _ _) (mergeL_sorted _ _ _ _ _) fun s => by
    rw [mem_int, mem_uni, mem_uni, mem_int, mem_int]
    by_cases h1 : s ∈ a <;> simp [h1]
theorem law2 (a b c : List Str) : min a (uni b c) = int (min a b) (min a c) :=
  sorted_unique _ _ (mergeL_sorted _ _ _ _ _) (mergeL_sorted _ _ _ _ _) fun s => by
    rw [mem_min, mem_uni, mem_int, mem_min, mem_min]
    by_cases h1 : s ∈ a <;> by_cases h2 : s ∈ b <;> simp [h1, h2]
theorem law3 (a b : List Str) : min a (min a b) = int a b :=
  sorted_unique _ _ (mergeL_sorted _ _ _ _ _) (mergeL_sorted _ _ _ _ _) fun s => by
    rw [mem_min, mem_min, mem_int]
    by_cases h1 : s ∈ a <;> simp [h1]
theorem law4 (a : List Str) : uni a a = ofL a :=
  sorted_unique _ _ (mergeL_sorted _ _ _ _ _) (ofL_sorted a) fun s => by rw [mem_uni, mem_ofL]; simp

def Fine (w : World) (e : Ending) (w' : World) : Prop := e = .returned (.bool true) ∧ Below w.heap.size w w'

set_option maxHeartbeats 4000000 in
theorem walk (v : Value) (xs : List Str) (W : World) (hr : Reads vs W v xs) (hs : ∀ x ∈ xs, x.length ≤ maxLen) (u : Value) (ys : List Str) (hq : Reads vs W u ys) (ht : ∀ x ∈ ys, x.length ≤ maxLen)
    (z : Value) (zs : List Str) (hz : Reads vs W z zs) (hy : ∀ x ∈ zs, x.length ≤ maxLen) : Calls Try.prog 7 #[v, u, z] W (Fine W) := by
  have hsm1 := small_any v xs W hr hs
  have hsm2 := small_any u ys W hq ht
  have hsm3 := small_any z zs W hz hy
  clear hs ht hy
  by_cases h1 : Small xs
  · rw [decide_eq_true h1] at hsm1
    have S1 := Lib.hid hsm1
    clear hsm1
    by_cases h2 : Small ys
    · rw [decide_eq_true h2] at hsm2
      have S2 := Lib.hid hsm2
      clear hsm2
      by_cases h3 : Small zs
      · rw [decide_eq_true h3] at hsm3
        have S3 := Lib.hid hsm3
        clear hsm3
        have hnx : xs.length ≤ 30 := h1.1
        have hny : ys.length ≤ 30 := h2.1
        have hnz : zs.length ≤ 30 := h3.1
        have N := Lib.hid (And.intro hnx (And.intro hny hnz))
        clear h1 h2 h3 hnx hny hnz
        have R0 := Lib.hid (And.intro (hr) (And.intro (hq) (hz)))
        have B0 := Lib.hid (Below.refl W.heap.size W)
        clear hr hq hz
        go_enter Try.func7, Try.ntmps7
        go_wp2_with fail
        refine S1.out.mono ?_
        rintro e w0x ⟨rfl, rfl⟩
        go_wp2_with fail
        refine S2.out.mono ?_
        rintro e w0x ⟨rfl, rfl⟩
        go_wp2_with fail
        refine S3.out.mono ?_
        rintro e w0x ⟨rfl, rfl⟩
        go_wp2_with fail
        refine (awake_any _).mono ?_
        rintro e w1 ⟨rfl, hb1⟩
        have B1 := Lib.hid (B0.out.trans (Below.mono hb1 B0.out.size))
        have R1 := Lib.hid (And.intro (((R0.out.1).keep hb1)) (And.intro (((R0.out.2.1).keep hb1)) (((R0.out.2.2).keep hb1))))
        clear hb1
        go_wp2_with fail
        refine (union_any u z ys zs _ (R1.out.2.1) (R1.out.2.2) (by have := N.out; have := uni_len ys zs; have := int_len xs ys; have := int_len xs zs; have := min_len xs ys; have := min_len xs zs; omega) (by have := N.out; have := uni_len ys zs; have := int_len xs ys; have := int_len xs zs; have := min_len xs ys; have := min_len xs zs; omega)).mono ?_
        rintro e w2 ⟨x2, rfl, hr2, hb2⟩
        have B2 := Lib.hid (B1.out.trans (Below.mono hb2 B1.out.size))
        have R2 := Lib.hid (And.intro (((R1.out.1).keep hb2)) (And.intro (((R1.out.2.1).keep hb2)) (And.intro (((R1.out.2.2).keep hb2)) ((show Reads vs _ x2 (uni ys zs) from hr2)))))
        clear hr2 hb2
        go_wp2_with fail
        refine (intersect_any v x2 xs (uni ys zs) _ (R2.out.1) (R2.out.2.2.2) (by have := N.out; have := uni_len ys zs; have := int_len xs ys; have := int_len xs zs; have := min_len xs ys; have := min_len xs zs; omega) (by have := N.out; have := uni_len ys zs; have := int_len xs ys; have := int_len xs zs; have := min_len xs ys; have := min_len xs zs; omega)).mono ?_
        rintro e w3 ⟨x3, rfl, hr3, hb3⟩
        have B3 := Lib.hid (B2.out.trans (Below.mono hb3 B2.out.size))
        have R3 := Lib.hid (And.intro (((R2.out.1).keep hb3)) (And.intro (((R2.out.2.1).keep hb3)) (And.intro (((R2.out.2.2.1).keep hb3)) (And.intro (((R2.out.2.2.2).keep hb3)) ((show Reads vs _ x3 (int xs (uni ys zs)) from hr3))))))
        clear hr3 hb3
        go_wp2_with fail
        refine (intersect_any v u xs ys _ (R3.out.1) (R3.out.2.1) (by have := N.out; have := uni_len ys zs; have := int_len xs ys; have := int_len xs zs; have := min_len xs ys; have := min_len xs zs; omega) (by have := N.out; have := uni_len ys zs; have := int_len xs ys; have := int_len xs zs; have := min_len xs ys; have := min_len xs zs; omega)).mono ?_
        rintro e w4 ⟨x4, rfl, hr4, hb4⟩
        have B4 := Lib.hid (B3.out.trans (Below.mono hb4 B3.out.size))
        have R4 := Lib.hid (And.intro (((R3.out.1).keep hb4)) (And.intro (((R3.out.2.1).keep hb4)) (And.intro (((R3.out.2.2.1).keep hb4)) (And.intro (((R3.out.2.2.2.1).keep hb4)) (And.intro (((R3.out.2.2.2.2).keep hb4)) ((show Reads vs _ x4 (int xs ys) from hr4)))))))
        clear hr4 hb4
        go_wp2_with fail
        refine (intersect_any v z xs zs _ (R4.out.1) (R4.out.2.2.1) (by have := N.out; have := uni_len ys zs; have := int_len xs ys; have := int_len xs zs; have := min_len xs ys; have := min_len xs zs; omega) (by have := N.out; have := uni_len ys zs; have := int_len xs ys; have := int_len xs zs; have := min_len xs ys; have := min_len xs zs; omega)).mono ?_
        rintro e w5 ⟨x5, rfl, hr5, hb5⟩
        have B5 := Lib.hid (B4.out.trans (Below.mono hb5 B4.out.size))
        have R5 := Lib.hid (And.intro (((R4.out.1).keep hb5)) (And.intro (((R4.out.2.1).keep hb5)) (And.intro (((R4.out.2.2.1).keep hb5)) (And.intro (((R4.out.2.2.2.1).keep hb5)) (And.intro (((R4.out.2.2.2.2.1).keep hb5)) (And.intro (((R4.out.2.2.2.2.2).keep hb5)) ((show Reads vs _ x5 (int xs zs) from hr5))))))))
        clear hr5 hb5
        go_wp2_with fail
        refine (union_any x4 x5 (int xs ys) (int xs zs) _ (R5.out.2.2.2.2.2.1) (R5.out.2.2.2.2.2.2) (by have := N.out; have := uni_len ys zs; have := int_len xs ys; have := int_len xs zs; have := min_len xs ys; have := min_len xs zs; omega) (by have := N.out; have := uni_len ys zs; have := int_len xs ys; have := int_len xs zs; have := min_len xs ys; have := min_len xs zs; omega)).mono ?_
        rintro e w6 ⟨x6, rfl, hr6, hb6⟩
        have B6 := Lib.hid (B5.out.trans (Below.mono hb6 B5.out.size))
        have R6 := Lib.hid (And.intro (((R5.out.1).keep hb6)) (And.intro (((R5.out.2.1).keep hb6)) (And.intro (((R5.out.2.2.1).keep hb6)) (And.intro (((R5.out.2.2.2.1).keep hb6)) (And.intro (((R5.out.2.2.2.2.1).keep hb6)) (And.intro (((R5.out.2.2.2.2.2.1).keep hb6)) (And.intro (((R5.out.2.2.2.2.2.2).keep hb6)) ((show Reads vs _ x6 (uni (int xs ys) (int xs zs)) from hr6)))))))))
        clear hr6 hb6
        go_wp2_with fail
        refine (rsame_any x3 x6 (int xs (uni ys zs)) (uni (int xs ys) (int xs zs)) _ (R6.out.2.2.2.2.1) (R6.out.2.2.2.2.2.2.2)).mono ?_
        rintro e w7 ⟨rfl, hd7⟩
        have B7 := Lib.hid (B6.out.trans (Below.mono (hd7.below (B := W.heap.size)) (Nat.le_refl _)))
        have R7 := Lib.hid (And.intro (((R6.out.1).keep hd7.below)) (And.intro (((R6.out.2.1).keep hd7.below)) (And.intro (((R6.out.2.2.1).keep hd7.below)) (And.intro (((R6.out.2.2.2.1).keep hd7.below)) (And.intro (((R6.out.2.2.2.2.1).keep hd7.below)) (And.intro (((R6.out.2.2.2.2.2.1).keep hd7.below)) (And.intro (((R6.out.2.2.2.2.2.2.1).keep hd7.below)) (((R6.out.2.2.2.2.2.2.2).keep hd7.below)))))))))
        clear hd7
        rw [decide_eq_true (law1 xs ys zs)]
        go_wp2_with fail
        refine (union_any u z ys zs _ (R7.out.2.1) (R7.out.2.2.1) (by have := N.out; have := uni_len ys zs; have := int_len xs ys; have := int_len xs zs; have := min_len xs ys; have := min_len xs zs; omega) (by have := N.out; have := uni_len ys zs; have := int_len xs ys; have := int_len xs zs; have := min_len xs ys; have := min_len xs zs; omega)).mono ?_
        rintro e w8 ⟨x8, rfl, hr8, hb8⟩
        have B8 := Lib.hid (B7.out.trans (Below.mono hb8 B7.out.size))
        have R8 := Lib.hid (And.intro (((R7.out.1).keep hb8)) (And.intro (((R7.out.2.1).keep hb8)) (And.intro (((R7.out.2.2.1).keep hb8)) (And.intro (((R7.out.2.2.2.1).keep hb8)) (And.intro (((R7.out.2.2.2.2.1).keep hb8)) (And.intro (((R7.out.2.2.2.2.2.1).keep hb8)) (And.intro (((R7.out.2.2.2.2.2.2.1).keep hb8)) (And.intro (((R7.out.2.2.2.2.2.2.2).keep hb8)) ((show Reads vs _ x8 (uni ys zs) from hr8))))))))))
        clear hr8 hb8
        go_wp2_with fail
        refine (minus_any v x8 xs (uni ys zs) _ (R8.out.1) (R8.out.2.2.2.2.2.2.2.2) (by have := N.out; have := uni_len ys zs; have := int_len xs ys; have := int_len xs zs; have := min_len xs ys; have := min_len xs zs; omega) (by have := N.out; have := uni_len ys zs; have := int_len xs ys; have := int_len xs zs; have := min_len xs ys; have := min_len xs zs; omega)).mono ?_
        rintro e w9 ⟨x9, rfl, hr9, hb9⟩
        have B9 := Lib.hid (B8.out.trans (Below.mono hb9 B8.out.size))
        have R9 := Lib.hid (And.intro (((R8.out.1).keep hb9)) (And.intro (((R8.out.2.1).keep hb9)) (And.intro (((R8.out.2.2.1).keep hb9)) (And.intro (((R8.out.2.2.2.1).keep hb9)) (And.intro (((R8.out.2.2.2.2.1).keep hb9)) (And.intro (((R8.out.2.2.2.2.2.1).keep hb9)) (And.intro (((R8.out.2.2.2.2.2.2.1).keep hb9)) (And.intro (((R8.out.2.2.2.2.2.2.2.1).keep hb9)) (And.intro (((R8.out.2.2.2.2.2.2.2.2).keep hb9)) ((show Reads vs _ x9 (min xs (uni ys zs)) from hr9)))))))))))
        clear hr9 hb9
        go_wp2_with fail
        refine (minus_any v u xs ys _ (R9.out.1) (R9.out.2.1) (by have := N.out; have := uni_len ys zs; have := int_len xs ys; have := int_len xs zs; have := min_len xs ys; have := min_len xs zs; omega) (by have := N.out; have := uni_len ys zs; have := int_len xs ys; have := int_len xs zs; have := min_len xs ys; have := min_len xs zs; omega)).mono ?_
        rintro e w10 ⟨x10, rfl, hr10, hb10⟩
        have B10 := Lib.hid (B9.out.trans (Below.mono hb10 B9.out.size))
        have R10 := Lib.hid (And.intro (((R9.out.1).keep hb10)) (And.intro (((R9.out.2.1).keep hb10)) (And.intro (((R9.out.2.2.1).keep hb10)) (And.intro (((R9.out.2.2.2.1).keep hb10)) (And.intro (((R9.out.2.2.2.2.1).keep hb10)) (And.intro (((R9.out.2.2.2.2.2.1).keep hb10)) (And.intro (((R9.out.2.2.2.2.2.2.1).keep hb10)) (And.intro (((R9.out.2.2.2.2.2.2.2.1).keep hb10)) (And.intro (((R9.out.2.2.2.2.2.2.2.2.1).keep hb10)) (And.intro (((R9.out.2.2.2.2.2.2.2.2.2).keep hb10)) ((show Reads vs _ x10 (min xs ys) from hr10))))))))))))
        clear hr10 hb10
        go_wp2_with fail
        refine (minus_any v z xs zs _ (R10.out.1) (R10.out.2.2.1) (by have := N.out; have := uni_len ys zs; have := int_len xs ys; have := int_len xs zs; have := min_len xs ys; have := min_len xs zs; omega) (by have := N.out; have := uni_len ys zs; have := int_len xs ys; have := int_len xs zs; have := min_len xs ys; have := min_len xs zs; omega)).mono ?_
        rintro e w11 ⟨x11, rfl, hr11, hb11⟩
        have B11 := Lib.hid (B10.out.trans (Below.mono hb11 B10.out.size))
        have R11 := Lib.hid (And.intro (((R10.out.1).keep hb11)) (And.intro (((R10.out.2.1).keep hb11)) (And.intro (((R10.out.2.2.1).keep hb11)) (And.intro (((R10.out.2.2.2.1).keep hb11)) (And.intro (((R10.out.2.2.2.2.1).keep hb11)) (And.intro (((R10.out.2.2.2.2.2.1).keep hb11)) (And.intro (((R10.out.2.2.2.2.2.2.1).keep hb11)) (And.intro (((R10.out.2.2.2.2.2.2.2.1).keep hb11)) (And.intro (((R10.out.2.2.2.2.2.2.2.2.1).keep hb11)) (And.intro (((R10.out.2.2.2.2.2.2.2.2.2.1).keep hb11)) (And.intro (((R10.out.2.2.2.2.2.2.2.2.2.2).keep hb11)) ((show Reads vs _ x11 (min xs zs) from hr11)))))))))))))
        clear hr11 hb11
        go_wp2_with fail
        refine (intersect_any x10 x11 (min xs ys) (min xs zs) _ (R11.out.2.2.2.2.2.2.2.2.2.2.1) (R11.out.2.2.2.2.2.2.2.2.2.2.2) (by have := N.out; have := uni_len ys zs; have := int_len xs ys; have := int_len xs zs; have := min_len xs ys; have := min_len xs zs; omega) (by have := N.out; have := uni_len ys zs; have := int_len xs ys; have := int_len xs zs; have := min_len xs ys; have := min_len xs zs; omega)).mono ?_
        rintro e w12 ⟨x12, rfl, hr12, hb12⟩
        have B12 := Lib.hid (B11.out.trans (Below.mono hb12 B11.out.size))
        have R12 := Lib.hid (And.intro (((R11.out.1).keep hb12)) (And.intro (((R11.out.2.1).keep hb12)) (And.intro (((R11.out.2.2.1).keep hb12)) (And.intro (((R11.out.2.2.2.1).keep hb12)) (And.intro (((R11.out.2.2.2.2.1).keep hb12)) (And.intro (((R11.out.2.2.2.2.2.1).keep hb12)) (And.intro (((R11.out.2.2.2.2.2.2.1).keep hb12)) (And.intro (((R11.out.2.2.2.2.2.2.2.1).keep hb12)) (And.intro (((R11.out.2.2.2.2.2.2.2.2.1).keep hb12)) (And.intro (((R11.out.2.2.2.2.2.2.2.2.2.1).keep hb12)) (And.intro (((R11.out.2.2.2.2.2.2.2.2.2.2.1).keep hb12)) (And.intro (((R11.out.2.2.2.2.2.2.2.2.2.2.2).keep hb12)) ((show Reads vs _ x12 (int (min xs ys) (min xs zs)) from hr12))))))))))))))
        clear hr12 hb12
        go_wp2_with fail
        refine (rsame_any x9 x12 (min xs (uni ys zs)) (int (min xs ys) (min xs zs)) _ (R12.out.2.2.2.2.2.2.2.2.2.1) (R12.out.2.2.2.2.2.2.2.2.2.2.2.2)).mono ?_
        rintro e w13 ⟨rfl, hd13⟩
        have B13 := Lib.hid (B12.out.trans (Below.mono (hd13.below (B := W.heap.size)) (Nat.le_refl _)))
        have R13 := Lib.hid (And.intro (((R12.out.1).keep hd13.below)) (And.intro (((R12.out.2.1).keep hd13.below)) (And.intro (((R12.out.2.2.1).keep hd13.below)) (And.intro (((R12.out.2.2.2.1).keep hd13.below)) (And.intro (((R12.out.2.2.2.2.1).keep hd13.below)) (And.intro (((R12.out.2.2.2.2.2.1).keep hd13.below)) (And.intro (((R12.out.2.2.2.2.2.2.1).keep hd13.below)) (And.intro (((R12.out.2.2.2.2.2.2.2.1).keep hd13.below)) (And.intro (((R12.out.2.2.2.2.2.2.2.2.1).keep hd13.below)) (And.intro (((R12.out.2.2.2.2.2.2.2.2.2.1).keep hd13.below)) (And.intro (((R12.out.2.2.2.2.2.2.2.2.2.2.1).keep hd13.below)) (And.intro (((R12.out.2.2.2.2.2.2.2.2.2.2.2.1).keep hd13.below)) (((R12.out.2.2.2.2.2.2.2.2.2.2.2.2).keep hd13.below))))))))))))))
        clear hd13
        rw [decide_eq_true (law2 xs ys zs)]
        go_wp2_with fail
        refine (minus_any v u xs ys _ (R13.out.1) (R13.out.2.1) (by have := N.out; have := uni_len ys zs; have := int_len xs ys; have := int_len xs zs; have := min_len xs ys; have := min_len xs zs; omega) (by have := N.out; have := uni_len ys zs; have := int_len xs ys; have := int_len xs zs; have := min_len xs ys; have := min_len xs zs; omega)).mono ?_
        rintro e w14 ⟨x14, rfl, hr14, hb14⟩
        have B14 := Lib.hid (B13.out.trans (Below.mono hb14 B13.out.size))
        have R14 := Lib.hid (And.intro (((R13.out.1).keep hb14)) (And.intro (((R13.out.2.1).keep hb14)) (And.intro (((R13.out.2.2.1).keep hb14)) (And.intro (((R13.out.2.2.2.1).keep hb14)) (And.intro (((R13.out.2.2.2.2.1).keep hb14)) (And.intro (((R13.out.2.2.2.2.2.1).keep hb14)) (And.intro (((R13.out.2.2.2.2.2.2.1).keep hb14)) (And.intro (((R13.out.2.2.2.2.2.2.2.1).keep hb14)) (And.intro (((R13.out.2.2.2.2.2.2.2.2.1).keep hb14)) (And.intro (((R13.out.2.2.2.2.2.2.2.2.2.1).keep hb14)) (And.intro (((R13.out.2.2.2.2.2.2.2.2.2.2.1).keep hb14)) (And.intro (((R13.out.2.2.2.2.2.2.2.2.2.2.2.1).keep hb14)) (And.intro (((R13.out.2.2.2.2.2.2.2.2.2.2.2.2).keep hb14)) ((show Reads vs _ x14 (min xs ys) from hr14)))))))))))))))
        clear hr14 hb14
        go_wp2_with fail
        refine (minus_any v x14 xs (min xs ys) _ (R14.out.1) (R14.out.2.2.2.2.2.2.2.2.2.2.2.2.2) (by have := N.out; have := uni_len ys zs; have := int_len xs ys; have := int_len xs zs; have := min_len xs ys; have := min_len xs zs; omega) (by have := N.out; have := uni_len ys zs; have := int_len xs ys; have := int_len xs zs; have := min_len xs ys; have := min_len xs zs; omega)).mono ?_
        rintro e w15 ⟨x15, rfl, hr15, hb15⟩
        have B15 := Lib.hid (B14.out.trans (Below.mono hb15 B14.out.size))
        have R15 := Lib.hid (And.intro (((R14.out.1).keep hb15)) (And.intro (((R14.out.2.1).keep hb15)) (And.intro (((R14.out.2.2.1).keep hb15)) (And.intro (((R14.out.2.2.2.1).keep hb15)) (And.intro (((R14.out.2.2.2.2.1).keep hb15)) (And.intro (((R14.out.2.2.2.2.2.1).keep hb15)) (And.intro (((R14.out.2.2.2.2.2.2.1).keep hb15)) (And.intro (((R14.out.2.2.2.2.2.2.2.1).keep hb15)) (And.intro (((R14.out.2.2.2.2.2.2.2.2.1).keep hb15)) (And.intro (((R14.out.2.2.2.2.2.2.2.2.2.1).keep hb15)) (And.intro (((R14.out.2.2.2.2.2.2.2.2.2.2.1).keep hb15)) (And.intro (((R14.out.2.2.2.2.2.2.2.2.2.2.2.1).keep hb15)) (And.intro (((R14.out.2.2.2.2.2.2.2.2.2.2.2.2.1).keep hb15)) (And.intro (((R14.out.2.2.2.2.2.2.2.2.2.2.2.2.2).keep hb15)) ((show Reads vs _ x15 (min xs (min xs ys)) from hr15))))))))))))))))
        clear hr15 hb15
        go_wp2_with fail
        refine (intersect_any v u xs ys _ (R15.out.1) (R15.out.2.1) (by have := N.out; have := uni_len ys zs; have := int_len xs ys; have := int_len xs zs; have := min_len xs ys; have := min_len xs zs; omega) (by have := N.out; have := uni_len ys zs; have := int_len xs ys; have := int_len xs zs; have := min_len xs ys; have := min_len xs zs; omega)).mono ?_
        rintro e w16 ⟨x16, rfl, hr16, hb16⟩
        have B16 := Lib.hid (B15.out.trans (Below.mono hb16 B15.out.size))
        have R16 := Lib.hid (And.intro (((R15.out.1).keep hb16)) (And.intro (((R15.out.2.1).keep hb16)) (And.intro (((R15.out.2.2.1).keep hb16)) (And.intro (((R15.out.2.2.2.1).keep hb16)) (And.intro (((R15.out.2.2.2.2.1).keep hb16)) (And.intro (((R15.out.2.2.2.2.2.1).keep hb16)) (And.intro (((R15.out.2.2.2.2.2.2.1).keep hb16)) (And.intro (((R15.out.2.2.2.2.2.2.2.1).keep hb16)) (And.intro (((R15.out.2.2.2.2.2.2.2.2.1).keep hb16)) (And.intro (((R15.out.2.2.2.2.2.2.2.2.2.1).keep hb16)) (And.intro (((R15.out.2.2.2.2.2.2.2.2.2.2.1).keep hb16)) (And.intro (((R15.out.2.2.2.2.2.2.2.2.2.2.2.1).keep hb16)) (And.intro (((R15.out.2.2.2.2.2.2.2.2.2.2.2.2.1).keep hb16)) (And.intro (((R15.out.2.2.2.2.2.2.2.2.2.2.2.2.2.1).keep hb16)) (And.intro (((R15.out.2.2.2.2.2.2.2.2.2.2.2.2.2.2).keep hb16)) ((show Reads vs _ x16 (int xs ys) from hr16)))))))))))))))))
        clear hr16 hb16
        go_wp2_with fail
        refine (rsame_any x15 x16 (min xs (min xs ys)) (int xs ys) _ (R16.out.2.2.2.2.2.2.2.2.2.2.2.2.2.2.1) (R16.out.2.2.2.2.2.2.2.2.2.2.2.2.2.2.2)).mono ?_
        rintro e w17 ⟨rfl, hd17⟩
        have B17 := Lib.hid (B16.out.trans (Below.mono (hd17.below (B := W.heap.size)) (Nat.le_refl _)))
        have R17 := Lib.hid (And.intro (((R16.out.1).keep hd17.below)) (And.intro (((R16.out.2.1).keep hd17.below)) (And.intro (((R16.out.2.2.1).keep hd17.below)) (And.intro (((R16.out.2.2.2.1).keep hd17.below)) (And.intro (((R16.out.2.2.2.2.1).keep hd17.below)) (And.intro (((R16.out.2.2.2.2.2.1).keep hd17.below)) (And.intro (((R16.out.2.2.2.2.2.2.1).keep hd17.below)) (And.intro (((R16.out.2.2.2.2.2.2.2.1).keep hd17.below)) (And.intro (((R16.out.2.2.2.2.2.2.2.2.1).keep hd17.below)) (And.intro (((R16.out.2.2.2.2.2.2.2.2.2.1).keep hd17.below)) (And.intro (((R16.out.2.2.2.2.2.2.2.2.2.2.1).keep hd17.below)) (And.intro (((R16.out.2.2.2.2.2.2.2.2.2.2.2.1).keep hd17.below)) (And.intro (((R16.out.2.2.2.2.2.2.2.2.2.2.2.2.1).keep hd17.below)) (And.intro (((R16.out.2.2.2.2.2.2.2.2.2.2.2.2.2.1).keep hd17.below)) (And.intro (((R16.out.2.2.2.2.2.2.2.2.2.2.2.2.2.2.1).keep hd17.below)) (((R16.out.2.2.2.2.2.2.2.2.2.2.2.2.2.2.2).keep hd17.below)))))))))))))))))
        clear hd17
        rw [decide_eq_true (law3 xs ys)]
        go_wp2_with fail
        refine (union_any v v xs xs _ (R17.out.1) (R17.out.1) (by have := N.out; have := uni_len ys zs; have := int_len xs ys; have := int_len xs zs; have := min_len xs ys; have := min_len xs zs; omega) (by have := N.out; have := uni_len ys zs; have := int_len xs ys; have := int_len xs zs; have := min_len xs ys; have := min_len xs zs; omega)).mono ?_
        rintro e w18 ⟨x18, rfl, hr18, hb18⟩
        have B18 := Lib.hid (B17.out.trans (Below.mono hb18 B17.out.size))
        have R18 := Lib.hid (And.intro (((R17.out.1).keep hb18)) (And.intro (((R17.out.2.1).keep hb18)) (And.intro (((R17.out.2.2.1).keep hb18)) (And.intro (((R17.out.2.2.2.1).keep hb18)) (And.intro (((R17.out.2.2.2.2.1).keep hb18)) (And.intro (((R17.out.2.2.2.2.2.1).keep hb18)) (And.intro (((R17.out.2.2.2.2.2.2.1).keep hb18)) (And.intro (((R17.out.2.2.2.2.2.2.2.1).keep hb18)) (And.intro (((R17.out.2.2.2.2.2.2.2.2.1).keep hb18)) (And.intro (((R17.out.2.2.2.2.2.2.2.2.2.1).keep hb18)) (And.intro (((R17.out.2.2.2.2.2.2.2.2.2.2.1).keep hb18)) (And.intro (((R17.out.2.2.2.2.2.2.2.2.2.2.2.1).keep hb18)) (And.intro (((R17.out.2.2.2.2.2.2.2.2.2.2.2.2.1).keep hb18)) (And.intro (((R17.out.2.2.2.2.2.2.2.2.2.2.2.2.2.1).keep hb18)) (And.intro (((R17.out.2.2.2.2.2.2.2.2.2.2.2.2.2.2.1).keep hb18)) (And.intro (((R17.out.2.2.2.2.2.2.2.2.2.2.2.2.2.2.2).keep hb18)) ((show Reads vs _ x18 (uni xs xs) from hr18))))))))))))))))))
        clear hr18 hb18
        go_wp2_with fail
        refine (of_any v xs _ (R18.out.1) (by have := N.out; omega)).mono ?_
        rintro e w19 ⟨x19, rfl, hr19, hb19⟩
        have B19 := Lib.hid (B18.out.trans (Below.mono hb19 B18.out.size))
        have R19 := Lib.hid (And.intro (((R18.out.1).keep hb19)) (And.intro (((R18.out.2.1).keep hb19)) (And.intro (((R18.out.2.2.1).keep hb19)) (And.intro (((R18.out.2.2.2.1).keep hb19)) (And.intro (((R18.out.2.2.2.2.1).keep hb19)) (And.intro (((R18.out.2.2.2.2.2.1).keep hb19)) (And.intro (((R18.out.2.2.2.2.2.2.1).keep hb19)) (And.intro (((R18.out.2.2.2.2.2.2.2.1).keep hb19)) (And.intro (((R18.out.2.2.2.2.2.2.2.2.1).keep hb19)) (And.intro (((R18.out.2.2.2.2.2.2.2.2.2.1).keep hb19)) (And.intro (((R18.out.2.2.2.2.2.2.2.2.2.2.1).keep hb19)) (And.intro (((R18.out.2.2.2.2.2.2.2.2.2.2.2.1).keep hb19)) (And.intro (((R18.out.2.2.2.2.2.2.2.2.2.2.2.2.1).keep hb19)) (And.intro (((R18.out.2.2.2.2.2.2.2.2.2.2.2.2.2.1).keep hb19)) (And.intro (((R18.out.2.2.2.2.2.2.2.2.2.2.2.2.2.2.1).keep hb19)) (And.intro (((R18.out.2.2.2.2.2.2.2.2.2.2.2.2.2.2.2.1).keep hb19)) (And.intro (((R18.out.2.2.2.2.2.2.2.2.2.2.2.2.2.2.2.2).keep hb19)) ((Reads.of_owns hr19)))))))))))))))))))
        clear hr19 hb19
        go_wp2_with fail
        refine (rsame_any x18 x19 (uni xs xs) (ofL xs) _ (R19.out.2.2.2.2.2.2.2.2.2.2.2.2.2.2.2.2.1) (R19.out.2.2.2.2.2.2.2.2.2.2.2.2.2.2.2.2.2)).mono ?_
        rintro e w20 ⟨rfl, hd20⟩
        have B20 := Lib.hid (B19.out.trans (Below.mono (hd20.below (B := W.heap.size)) (Nat.le_refl _)))
        have R20 := Lib.hid (And.intro (((R19.out.1).keep hd20.below)) (And.intro (((R19.out.2.1).keep hd20.below)) (And.intro (((R19.out.2.2.1).keep hd20.below)) (And.intro (((R19.out.2.2.2.1).keep hd20.below)) (And.intro (((R19.out.2.2.2.2.1).keep hd20.below)) (And.intro (((R19.out.2.2.2.2.2.1).keep hd20.below)) (And.intro (((R19.out.2.2.2.2.2.2.1).keep hd20.below)) (And.intro (((R19.out.2.2.2.2.2.2.2.1).keep hd20.below)) (And.intro (((R19.out.2.2.2.2.2.2.2.2.1).keep hd20.below)) (And.intro (((R19.out.2.2.2.2.2.2.2.2.2.1).keep hd20.below)) (And.intro (((R19.out.2.2.2.2.2.2.2.2.2.2.1).keep hd20.below)) (And.intro (((R19.out.2.2.2.2.2.2.2.2.2.2.2.1).keep hd20.below)) (And.intro (((R19.out.2.2.2.2.2.2.2.2.2.2.2.2.1).keep hd20.below)) (And.intro (((R19.out.2.2.2.2.2.2.2.2.2.2.2.2.2.1).keep hd20.below)) (And.intro (((R19.out.2.2.2.2.2.2.2.2.2.2.2.2.2.2.1).keep hd20.below)) (And.intro (((R19.out.2.2.2.2.2.2.2.2.2.2.2.2.2.2.2.1).keep hd20.below)) (And.intro (((R19.out.2.2.2.2.2.2.2.2.2.2.2.2.2.2.2.2.1).keep hd20.below)) (((R19.out.2.2.2.2.2.2.2.2.2.2.2.2.2.2.2.2.2).keep hd20.below)))))))))))))))))))
        clear hd20
        rw [decide_eq_true (law4 xs)]
        go_wp2
        go_ret
        exact ⟨rfl, B20.out⟩
      · rw [decide_eq_false h3] at hsm3
        have S3 := Lib.hid hsm3
        clear hsm3
        go_enter Try.func7, Try.ntmps7
        go_wp2_with fail
        refine S1.out.mono ?_
        rintro e w0x ⟨rfl, rfl⟩
        go_wp2_with fail
        refine S2.out.mono ?_
        rintro e w0x ⟨rfl, rfl⟩
        go_wp2_with fail
        refine S3.out.mono ?_
        rintro e w0x ⟨rfl, rfl⟩
        go_wp2_with fail
        refine (awake_any _).mono ?_
        rintro e w1 ⟨rfl, hb1⟩
        have B1 := Lib.hid hb1
        clear hb1
        go_wp2
        go_ret
        exact ⟨rfl, B1.out⟩
    · rw [decide_eq_false h2] at hsm2
      have S2 := Lib.hid hsm2
      clear hsm2
      go_enter Try.func7, Try.ntmps7
      go_wp2_with fail
      refine S1.out.mono ?_
      rintro e w0x ⟨rfl, rfl⟩
      go_wp2_with fail
      refine S2.out.mono ?_
      rintro e w0x ⟨rfl, rfl⟩
      go_wp2_with fail
      refine (awake_any _).mono ?_
      rintro e w1 ⟨rfl, hb1⟩
      have B1 := Lib.hid hb1
      clear hb1
      go_wp2
      go_ret
      exact ⟨rfl, B1.out⟩
  · rw [decide_eq_false h1] at hsm1
    have S1 := Lib.hid hsm1
    clear hsm1
    go_enter Try.func7, Try.ntmps7
    go_wp2_with fail
    refine S1.out.mono ?_
    rintro e w0x ⟨rfl, rfl⟩
    go_wp2_with fail
    refine (awake_any _).mono ?_
    rintro e w1 ⟨rfl, hb1⟩
    have B1 := Lib.hid hb1
    clear hb1
    go_wp2
    go_ret
    exact ⟨rfl, B1.out⟩

set_option maxRecDepth 100000 in
theorem lifted (os : Os) (started : os.Started) (H : Type) (enc : TypeId × Value → H) :
    ReturnsInHanded {} Try.checked os 7 .any (Rows.namesAlgebraSpec.pre6 enc Try.prog Try.f7 Rows.namesAlgebraRow.domain false) (Rows.namesAlgebraSpec.post enc Try.prog Try.f7 false true false false) := by
  refine returnsInHanded_of_change (C := Try.checked) own started (by kernel_rfl) Try.func7
    (ChangeSpec.witness6 (enc := enc) (C := Try.checked) false ⟨#[], #[.slice none 0 0, .slice none 0 0, .slice none 0 0], []⟩ 8 (by kernel_rfl) (by kernel_rfl) (by kernel_rfl) (by kernel_rfl)) ?_
  intro W base args ds gs before hval0 hW hcnd _
  have hval : ∀ (j : Nat) t v, Try.f7.params[j]? = some t → args[j]? = some v → Value.okWide Try.prog W .any base t v := hval0
  have hW' := hW
  obtain ⟨p, q, hA0, hV, rfl, hfz, hnd⟩ := hW
  have hA : DataW.TrodAll enc Try.prog W 0 (fun _ => true) true Try.f7.params.toList args.toList ds p := hA0
  rw [Try.params7] at hA hval
  obtain ⟨v0, vs0, d0, ds0, p0, q0, hargs, rfl, rfl, h0, r0⟩ := trodAll_cons hA
  obtain ⟨v1, vs1, d1, ds1, p1, q1, rfl, rfl, rfl, h1, r1⟩ := trodAll_cons r0
  obtain ⟨v2, vs2, d2, ds2, p2, q2, rfl, rfl, rfl, h2, r2⟩ := trodAll_cons r1
  obtain ⟨rfl, rfl, rfl⟩ := trodAll_nil r2
  obtain rfl : args = #[v0, v1, v2] := by cases args; simp_all
  obtain ⟨rfl, rfl⟩ := trodVars_none hV
  obtain ⟨xs0, hr0, hl0⟩ := open_reads (hval 0 24 v0 rfl rfl) h0
  obtain ⟨xs1, hr1, hl1⟩ := open_reads (hval 1 24 v1 rfl rfl) h1
  obtain ⟨xs2, hr2, hl2⟩ := open_reads (hval 2 24 v2 rfl rfl) h2
  refine (walk v0 xs0 W hr0 hl0 v1 xs1 hr1 hl1 v2 xs2 hr2 hl2).mono fun e W' ⟨he, hb⟩ => ?_
  subst he
  exact ⟨_, rfl, law_post laidOut rfl (fun _ _ => rfl) (by kernel_rfl) Try.underlying4 (by rw [Try.params7]; exact fun t ht => by simp at ht; rcases ht with  rfl ; all_goals exact ⟨by kernel_rfl, of_decide_eq_true (by kernel_rfl)⟩) hW' hb⟩

theorem over : Rows.namesAlgebraRow.holds Try.pinned (OpenSpec.ofChange Rows.namesAlgebraSpec) :=
  OpenClaim.holds_of_wide 7 Try.f7 rfl rfl rfl rfl rfl rfl rfl ⟨rfl, rfl, rfl, rfl, rfl⟩ rfl rfl rfl rfl rfl (by kernel_rfl) Try.func7 (by kernel_rfl)
    (of_decide_eq_true (by kernel_rfl)) (by unfold Func.isWrapper; first | (rw [if_pos (by decide +kernel)]; kernel_rfl) | (rw [if_neg (by decide +kernel)]; exact ⟨rfl, rfl⟩))
    (fun os started H enc _ => lifted os started H enc)

theorem proved : Rows.NamesAlgebraSaid := over

end Go.Proofs.Ytgolodpihmdmoaa.namesAlgebra
