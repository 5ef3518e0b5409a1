/-
  NamesSets: for every two lists and every string the law returns true, and the lists read behind the call as before. No condition.
-/
import Derived.Test.YtgolodpihmdmoaaNl
import Derived.Test.YtgolodpihmdmoaaNt
import Derived.Test.YtgolodpihmdmoaaLp
namespace Go.Proofs.Ytgolodpihmdmoaa.namesSets
open Go.ChangeShapes Go.WideShapes Go.ChangeAt Go.RowKit
open Go.ChangeMaps (open_string)

theorem wanted_merge (l b r : Bool) (xs ys : List Str) (s : Str) : s ∈ mergeL l b r (ofL xs) (ofL ys) ↔ wantedB xs ys s l r b = true := by
  rw [mergeL_mem]; unfold wantedB
  by_cases h1 : s ∈ xs <;> by_cases h2 : s ∈ ys <;> simp [h1, h2]
theorem wanted_of (xs : List Str) (s : Str) : s ∈ ofL xs ↔ wantedB xs [] s true false false = true := by
  rw [mem_ofL]; unfold wantedB
  by_cases h1 : s ∈ xs <;> simp [h1]

def Fine (w : World) (e : Ending) (w' : World) : Prop := e = .returned (.bool true) ∧ Below w.heap.size w w'

set_option maxHeartbeats 4000000 in
theorem walk (v : Value) (xs : List Str) (W : World) (hr : Reads vs W v xs) (hs : ∀ x ∈ xs, x.length ≤ maxLen) (u : Value) (ys : List Str) (hq : Reads vs W u ys) (ht : ∀ x ∈ ys, x.length ≤ maxLen)
    (s : ByteArray) (hz : s.size ≤ maxLen) : Calls Try.prog 8 #[v, u, .string s] W (Fine W) := by
  have hsm1 := small_any v xs W hr hs
  have hsm2 := small_any u ys W hq ht
  clear hs ht
  unfold maxLen at hz
  by_cases h1 : Small xs
  · rw [decide_eq_true h1] at hsm1
    have S1 := Lib.hid hsm1
    clear hsm1
    by_cases h2 : Small ys
    · rw [decide_eq_true h2] at hsm2
      have S2 := Lib.hid hsm2
      clear hsm2
      have hnx : xs.length ≤ 30 := h1.1
      have hny : ys.length ≤ 30 := h2.1
      have N := Lib.hid (And.intro hnx hny)
      clear h1 h2 hnx hny
      by_cases h3 : s.size ≤ 40
      · have R0 := Lib.hid (And.intro (hr) (hq))
        have B0 := Lib.hid (Below.refl W.heap.size W)
        clear hr hq
        go_enter Try.func8, Try.ntmps8
        go_wp2_with fail
        refine S1.out.mono ?_
        rintro e w0x ⟨rfl, rfl⟩
        go_wp2_with fail
        refine S2.out.mono ?_
        rintro e w0x ⟨rfl, rfl⟩
        go_wp2_with fail
        refine (awake_any _).mono ?_
        rintro e w1 ⟨rfl, hb1⟩
        have B1 := Lib.hid (B0.out.trans (Below.mono hb1 B0.out.size))
        have R1 := Lib.hid (And.intro (((R0.out.1).keep hb1)) (((R0.out.2).keep hb1)))
        clear hb1
        go_wp2_with fail
        refine (of_any v xs _ (R1.out.1) (by have := N.out; omega)).mono ?_
        rintro e w2 ⟨x2, rfl, hr2, hb2⟩
        have B2 := Lib.hid (B1.out.trans (Below.mono hb2 B1.out.size))
        have R2 := Lib.hid (And.intro (((R1.out.1).keep hb2)) (And.intro (((R1.out.2).keep hb2)) ((Reads.of_owns hr2))))
        clear hr2 hb2
        go_wp2_with fail
        refine (exactly_true x2 v (.slice none 0 0) (ofL xs) xs [] true false false _ (R2.out.2.2) (R2.out.1) (Reads.nil _) (by have := N.out; simp; try omega) (ofL_sorted _) (fun s hs => (wanted_of xs s).1 hs) (fun s _ h => (wanted_of xs s).2 h)).mono ?_
        rintro e w3 ⟨rfl, hb3⟩
        have B3 := Lib.hid (B2.out.trans (Below.mono hb3 B2.out.size))
        have R3 := Lib.hid (And.intro (((R2.out.1).keep hb3)) (And.intro (((R2.out.2.1).keep hb3)) (((R2.out.2.2).keep hb3))))
        clear hb3
        go_wp2_with fail
        refine (union_any v u xs ys _ (R3.out.1) (R3.out.2.1) (by have := N.out; omega) (by have := N.out; omega)).mono ?_
        rintro e w4 ⟨x4, rfl, hr4, hb4⟩
        have B4 := Lib.hid (B3.out.trans (Below.mono hb4 B3.out.size))
        have R4 := Lib.hid (And.intro (((R3.out.1).keep hb4)) (And.intro (((R3.out.2.1).keep hb4)) (And.intro (((R3.out.2.2).keep hb4)) ((show Reads vs _ x4 (mergeL true true true (ofL xs) (ofL ys)) from hr4)))))
        clear hr4 hb4
        go_wp2_with fail
        refine (exactly_true x4 v u (mergeL true true true (ofL xs) (ofL ys)) xs ys true true true _ (R4.out.2.2.2) (R4.out.1) (R4.out.2.1) (by have := N.out; simp; try omega) (mergeL_sorted _ _ _ _ _) (fun s hs => (wanted_merge true true true xs ys s).1 hs) (fun s _ h => (wanted_merge true true true xs ys s).2 h)).mono ?_
        rintro e w5 ⟨rfl, hb5⟩
        have B5 := Lib.hid (B4.out.trans (Below.mono hb5 B4.out.size))
        have R5 := Lib.hid (And.intro (((R4.out.1).keep hb5)) (And.intro (((R4.out.2.1).keep hb5)) (And.intro (((R4.out.2.2.1).keep hb5)) (((R4.out.2.2.2).keep hb5)))))
        clear hb5
        go_wp2_with fail
        refine (intersect_any v u xs ys _ (R5.out.1) (R5.out.2.1) (by have := N.out; omega) (by have := N.out; omega)).mono ?_
        rintro e w6 ⟨x6, rfl, hr6, hb6⟩
        have B6 := Lib.hid (B5.out.trans (Below.mono hb6 B5.out.size))
        have R6 := Lib.hid (And.intro (((R5.out.1).keep hb6)) (And.intro (((R5.out.2.1).keep hb6)) (And.intro (((R5.out.2.2.1).keep hb6)) (And.intro (((R5.out.2.2.2).keep hb6)) ((show Reads vs _ x6 (mergeL false true false (ofL xs) (ofL ys)) from hr6))))))
        clear hr6 hb6
        go_wp2_with fail
        refine (exactly_true x6 v u (mergeL false true false (ofL xs) (ofL ys)) xs ys false false true _ (R6.out.2.2.2.2) (R6.out.1) (R6.out.2.1) (by have := N.out; simp; try omega) (mergeL_sorted _ _ _ _ _) (fun s hs => (wanted_merge false true false xs ys s).1 hs) (fun s _ h => (wanted_merge false true false xs ys s).2 h)).mono ?_
        rintro e w7 ⟨rfl, hb7⟩
        have B7 := Lib.hid (B6.out.trans (Below.mono hb7 B6.out.size))
        have R7 := Lib.hid (And.intro (((R6.out.1).keep hb7)) (And.intro (((R6.out.2.1).keep hb7)) (And.intro (((R6.out.2.2.1).keep hb7)) (And.intro (((R6.out.2.2.2.1).keep hb7)) (((R6.out.2.2.2.2).keep hb7))))))
        clear hb7
        go_wp2_with fail
        refine (minus_any v u xs ys _ (R7.out.1) (R7.out.2.1) (by have := N.out; omega) (by have := N.out; omega)).mono ?_
        rintro e w8 ⟨x8, rfl, hr8, hb8⟩
        have B8 := Lib.hid (B7.out.trans (Below.mono hb8 B7.out.size))
        have R8 := Lib.hid (And.intro (((R7.out.1).keep hb8)) (And.intro (((R7.out.2.1).keep hb8)) (And.intro (((R7.out.2.2.1).keep hb8)) (And.intro (((R7.out.2.2.2.1).keep hb8)) (And.intro (((R7.out.2.2.2.2).keep hb8)) ((show Reads vs _ x8 (mergeL true false false (ofL xs) (ofL ys)) from hr8)))))))
        clear hr8 hb8
        go_wp2_with fail
        refine (exactly_true x8 v u (mergeL true false false (ofL xs) (ofL ys)) xs ys true false false _ (R8.out.2.2.2.2.2) (R8.out.1) (R8.out.2.1) (by have := N.out; simp; try omega) (mergeL_sorted _ _ _ _ _) (fun s hs => (wanted_merge true false false xs ys s).1 hs) (fun s _ h => (wanted_merge true false false xs ys s).2 h)).mono ?_
        rintro e w9 ⟨rfl, hb9⟩
        have B9 := Lib.hid (B8.out.trans (Below.mono hb9 B8.out.size))
        have R9 := Lib.hid (And.intro (((R8.out.1).keep hb9)) (And.intro (((R8.out.2.1).keep hb9)) (And.intro (((R8.out.2.2.1).keep hb9)) (And.intro (((R8.out.2.2.2.1).keep hb9)) (And.intro (((R8.out.2.2.2.2.1).keep hb9)) (((R8.out.2.2.2.2.2).keep hb9)))))))
        clear hb9
        have hh1 := has_any v xs s.data.toList _ (R9.out.1)
        have hh2 := rhas_any v xs s.data.toList _ (R9.out.1)
        unfold vs at hh1 hh2
        rw [toB_data] at hh1 hh2
        have HH := Lib.hid (And.intro hh1 hh2)
        clear hh1 hh2
        generalize decide (s.data.toList ∈ xs) = hb at *
        have hbb : (hb == hb) = true := by simp
        go_wp2_with fail
        refine HH.out.1.mono ?_
        rintro e w0x ⟨rfl, rfl⟩
        go_wp2_with fail
        refine HH.out.2.mono ?_
        rintro e w0x ⟨rfl, rfl⟩
        go_wp2_with fail
        refine (sorted_any v xs _ (R9.out.1)).mono ?_
        rintro e w10 ⟨rfl, hd10⟩
        have B10 := Lib.hid (B9.out.trans (Below.mono (hd10.below (B := W.heap.size)) (Nat.le_refl _)))
        have R10 := Lib.hid (And.intro (((R9.out.1).keep hd10.below)) (And.intro (((R9.out.2.1).keep hd10.below)) (And.intro (((R9.out.2.2.1).keep hd10.below)) (And.intro (((R9.out.2.2.2.1).keep hd10.below)) (And.intro (((R9.out.2.2.2.2.1).keep hd10.below)) (((R9.out.2.2.2.2.2).keep hd10.below)))))))
        clear hd10
        go_wp2_with fail
        refine (rsorted_any v xs _ (R10.out.1)).mono ?_
        rintro e w11 ⟨rfl, hd11⟩
        have B11 := Lib.hid (B10.out.trans (Below.mono (hd11.below (B := W.heap.size)) (Nat.le_refl _)))
        have R11 := Lib.hid (And.intro (((R10.out.1).keep hd11.below)) (And.intro (((R10.out.2.1).keep hd11.below)) (And.intro (((R10.out.2.2.1).keep hd11.below)) (And.intro (((R10.out.2.2.2.1).keep hd11.below)) (And.intro (((R10.out.2.2.2.2.1).keep hd11.below)) (((R10.out.2.2.2.2.2).keep hd11.below)))))))
        clear hd11
        go_wp2
        go_ret
        exact ⟨rfl, B11.out⟩
      · have h4 : 40 < s.size := by omega
        go_enter Try.func8, Try.ntmps8
        go_wp2_with fail
        refine S1.out.mono ?_
        rintro e w0x ⟨rfl, rfl⟩
        go_wp2_with fail
        refine S2.out.mono ?_
        rintro e w0x ⟨rfl, rfl⟩
        go_wp2_with fail
        refine (awake_any _).mono ?_
        rintro e w1 ⟨rfl, hb1⟩
        have B1 := Lib.hid hb1
        clear hb1
        go_wp2
        go_ret
        exact ⟨rfl, B1.out⟩
    · rw [decide_eq_false h2] at hsm2
      have S2 := Lib.hid hsm2
      clear hsm2
      go_enter Try.func8, Try.ntmps8
      go_wp2_with fail
      refine S1.out.mono ?_
      rintro e w0x ⟨rfl, rfl⟩
      go_wp2_with fail
      refine S2.out.mono ?_
      rintro e w0x ⟨rfl, rfl⟩
      go_wp2_with fail
      refine (awake_any _).mono ?_
      rintro e w1 ⟨rfl, hb1⟩
      have B1 := Lib.hid hb1
      clear hb1
      go_wp2
      go_ret
      exact ⟨rfl, B1.out⟩
  · rw [decide_eq_false h1] at hsm1
    have S1 := Lib.hid hsm1
    clear hsm1
    go_enter Try.func8, Try.ntmps8
    go_wp2_with fail
    refine S1.out.mono ?_
    rintro e w0x ⟨rfl, rfl⟩
    go_wp2_with fail
    refine (awake_any _).mono ?_
    rintro e w1 ⟨rfl, hb1⟩
    have B1 := Lib.hid hb1
    clear hb1
    go_wp2
    go_ret
    exact ⟨rfl, B1.out⟩

set_option maxRecDepth 100000 in
theorem lifted (os : Os) (started : os.Started) (H : Type) (enc : TypeId × Value → H) :
    ReturnsInHanded {} Try.checked os 8 .any (Rows.namesSetsSpec.pre6 enc Try.prog Try.f8 Rows.namesSetsRow.domain false) (Rows.namesSetsSpec.post enc Try.prog Try.f8 false true false false) := by
  refine returnsInHanded_of_change (C := Try.checked) own started (by kernel_rfl) Try.func8
    (ChangeSpec.witness6 (enc := enc) (C := Try.checked) false ⟨#[], #[.slice none 0 0, .slice none 0 0, .string ByteArray.empty], []⟩ 8 (by kernel_rfl) (by kernel_rfl) (by kernel_rfl) (by kernel_rfl)) ?_
  intro W base args ds gs before hval0 hW hcnd _
  have hval : ∀ (j : Nat) t v, Try.f8.params[j]? = some t → args[j]? = some v → Value.okWide Try.prog W .any base t v := hval0
  have hW' := hW
  obtain ⟨p, q, hA0, hV, rfl, hfz, hnd⟩ := hW
  have hA : DataW.TrodAll enc Try.prog W 0 (fun _ => true) true Try.f8.params.toList args.toList ds p := hA0
  rw [Try.params8] at hA hval
  obtain ⟨v0, vs0, d0, ds0, p0, q0, hargs, rfl, rfl, h0, r0⟩ := trodAll_cons hA
  obtain ⟨v1, vs1, d1, ds1, p1, q1, rfl, rfl, rfl, h1, r1⟩ := trodAll_cons r0
  obtain ⟨v2, vs2, d2, ds2, p2, q2, rfl, rfl, rfl, h2, r2⟩ := trodAll_cons r1
  obtain ⟨rfl, rfl, rfl⟩ := trodAll_nil r2
  obtain rfl : args = #[v0, v1, v2] := by cases args; simp_all
  obtain ⟨rfl, rfl⟩ := trodVars_none hV
  obtain ⟨xs0, hr0, hl0⟩ := open_reads (hval 0 24 v0 rfl rfl) h0
  obtain ⟨xs1, hr1, hl1⟩ := open_reads (hval 1 24 v1 rfl rfl) h1
  obtain ⟨a2, rfl, _, _, w2⟩ := open_string Try.underlying9 (hval 2 9 v2 rfl rfl) h2
  refine (walk v0 xs0 W hr0 hl0 v1 xs1 hr1 hl1 a2 w2).mono fun e W' ⟨he, hb⟩ => ?_
  subst he
  exact ⟨_, rfl, law_post laidOut rfl (fun _ _ => rfl) (by kernel_rfl) Try.underlying4 (by rw [Try.params8]; exact fun t ht => by simp at ht; rcases ht with  rfl | rfl ; all_goals exact ⟨by kernel_rfl, of_decide_eq_true (by kernel_rfl)⟩) hW' hb⟩

theorem over : Rows.namesSetsRow.holds Try.pinned (OpenSpec.ofChange Rows.namesSetsSpec) :=
  OpenClaim.holds_of_wide 8 Try.f8 rfl rfl rfl rfl rfl rfl rfl ⟨rfl, rfl, rfl, rfl, rfl⟩ rfl rfl rfl rfl rfl (by kernel_rfl) Try.func8 (by kernel_rfl)
    (of_decide_eq_true (by kernel_rfl)) (by unfold Func.isWrapper; first | (rw [if_pos (by decide +kernel)]; kernel_rfl) | (rw [if_neg (by decide +kernel)]; exact ⟨rfl, rfl⟩))
    (fun os started H enc _ => lifted os started H enc)

theorem proved : Rows.NamesSetsSaid := over

end Go.Proofs.Ytgolodpihmdmoaa.namesSets
