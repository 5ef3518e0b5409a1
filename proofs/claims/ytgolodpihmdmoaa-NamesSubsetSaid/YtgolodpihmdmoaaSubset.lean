/-
  NamesSubset: for every two lists the law returns true, and the lists read behind the call as before. No condition.
-/
import Derived.Test.YtgolodpihmdmoaaNl
import Derived.Test.YtgolodpihmdmoaaLp
namespace Go.Proofs.Ytgolodpihmdmoaa.namesSubset
open Go.ChangeShapes Go.WideShapes Go.ChangeAt Go.RowKit
open Go.ChangeMaps (open_string shut_string)

theorem sub_union (xs ys : List Str) : decide (mergeL true true true (ofL xs) (ofL ys) = ofL ys) = subB xs ys := by
  unfold subB
  rw [Bool.eq_iff_iff, decide_eq_true_eq, decide_eq_true_eq]
  constructor
  · intro h s hs
    have := (mergeL_mem true true true xs ys s).2 (by by_cases h : s ∈ ys <;> simp [hs, h])
    rw [h, mem_ofL] at this
    exact this
  · intro h
    refine sorted_unique _ _ (mergeL_sorted _ _ _ _ _) (ofL_sorted ys) (fun s => ?_)
    rw [mergeL_mem, mem_ofL]
    have := h s
    by_cases h1 : s ∈ xs <;> by_cases h2 : s ∈ ys <;> simp_all

theorem sub_inter (xs ys : List Str) : decide (mergeL false true false (ofL xs) (ofL ys) = ofL xs) = subB xs ys := by
  unfold subB
  rw [Bool.eq_iff_iff, decide_eq_true_eq, decide_eq_true_eq]
  constructor
  · intro h s hs
    have h2 : s ∈ ofL xs := (mem_ofL xs s).2 hs
    rw [← h, mergeL_mem] at h2
    simp at h2
    exact h2.2
  · intro h
    refine sorted_unique _ _ (mergeL_sorted _ _ _ _ _) (ofL_sorted xs) (fun s => ?_)
    rw [mergeL_mem, mem_ofL]
    have := h s
    by_cases h1 : s ∈ xs <;> by_cases h2 : s ∈ ys <;> simp_all

theorem sub_minus (xs ys : List Str) : (((mergeL true false false (ofL xs) (ofL ys)).length : Int) == 0) = subB xs ys := by
  unfold subB
  rw [Bool.eq_iff_iff, beq_iff_eq, decide_eq_true_eq]
  constructor
  · intro h s hs
    have h0 : mergeL true false false (ofL xs) (ofL ys) = [] := List.length_eq_zero_iff.1 (by omega)
    by_cases hy : s ∈ ys
    · exact hy
    · have := (mergeL_mem true false false xs ys s).2 (.inl ⟨hs, hy, rfl⟩)
      rw [h0] at this; simp at this
  · intro h
    have h0 : mergeL true false false (ofL xs) (ofL ys) = [] := by
      refine List.eq_nil_iff_forall_not_mem.2 fun s hs => ?_
      have := (mergeL_mem true false false xs ys s).1 hs
      simp at this
      exact this.2 (h s this.1)
    rw [h0]; rfl

def Fine (w : World) (e : Ending) (w' : World) : Prop := e = .returned (.bool true) ∧ Below w.heap.size w w'

set_option maxHeartbeats 1000000 in
theorem walk (v : Value) (xs : List Str) (W : World) (hr : Reads vs W v xs) (hs : ∀ x ∈ xs, x.length ≤ maxLen) (u : Value) (ys : List Str) (hq : Reads vs W u ys) (ht : ∀ x ∈ ys, x.length ≤ maxLen) :
    Calls Try.prog 9 #[v, u] W (Fine W) := by
  have hsm1 := small_any v xs W hr hs
  have hsm2 := small_any u ys W hq ht
  have HR := Lib.hid (And.intro hr hq)
  clear hr hq hs ht
  by_cases h1 : Small xs
  · rw [decide_eq_true h1] at hsm1
    have HL := Lib.hid h1
    have S1 := Lib.hid hsm1
    clear h1 hsm1
    by_cases h2 : Small ys
    · rw [decide_eq_true h2] at hsm2
      have HL2 := Lib.hid h2
      have S2 := Lib.hid hsm2
      clear h2 hsm2
      have hnx : xs.length ≤ 1000000 := by have := HL.out.1; omega
      have hny : ys.length ≤ 1000000 := by have := HL2.out.1; omega
      have e1 := sub_union xs ys
      have e2 := sub_inter xs ys
      have e3 := sub_minus xs ys
      have E := Lib.hid (And.intro e1 (And.intro e2 e3))
      clear e1 e2 e3
      go_enter Try.func9, Try.ntmps9
      go_wp2_with fail
      refine S1.out.mono ?_
      rintro e w1 ⟨rfl, rfl⟩
      go_wp2_with fail
      refine S2.out.mono ?_
      rintro e w1 ⟨rfl, rfl⟩
      go_wp2_with fail
      refine (subset_any v u xs ys _ HR.out.1 HR.out.2).mono ?_
      rintro e w1 ⟨rfl, rfl⟩
      generalize hbq : subB xs ys = bb at *
      have HQ := Lib.hid hbq
      clear hbq
      go_wp2_with fail
      refine (awake_any _).mono ?_
      rintro e w1 ⟨rfl, hb1⟩
      have B1 := Lib.hid hb1
      clear hb1
      go_wp2_with fail
      refine (union_any v u xs ys _ (HR.out.1.keep B1.out) (HR.out.2.keep B1.out) hnx hny).mono ?_
      rintro e w2 ⟨v2, rfl, hr2, hb2⟩
      have R2 := Lib.hid hr2
      have B2 := Lib.hid (B1.out.trans (hb2.mono B1.out.size))
      clear hr2 hb2
      go_wp2_with fail
      refine (of_any u ys _ (HR.out.2.keep B2.out) (by omega)).mono ?_
      rintro e w3 ⟨v3, rfl, hown3, hb3⟩
      have R3 := Lib.hid (And.intro (R2.out.keep hb3) (Reads.of_owns hown3))
      have B3 := Lib.hid (B2.out.trans (hb3.mono B2.out.size))
      clear hown3 hb3
      go_wp2_with fail
      refine (rsame_any v2 v3 _ _ _ R3.out.1 R3.out.2).mono ?_
      rintro e w4 ⟨rfl, hd4⟩
      have B4 := Lib.hid (B3.out.trans hd4.below)
      clear hd4
      rw [E.out.1]
      have hbe : (bb == bb) = true := bb_true bb
      go_wp2_with fail
      refine (intersect_any v u xs ys _ (HR.out.1.keep B4.out) (HR.out.2.keep B4.out) hnx hny).mono ?_
      rintro e w5 ⟨v5, rfl, hr5, hb5⟩
      have R5 := Lib.hid hr5
      have B5 := Lib.hid (B4.out.trans (hb5.mono B4.out.size))
      clear hr5 hb5
      go_wp2_with fail
      refine (of_any v xs _ (HR.out.1.keep B5.out) (by omega)).mono ?_
      rintro e w6 ⟨v6, rfl, hown6, hb6⟩
      have R6 := Lib.hid (And.intro (R5.out.keep hb6) (Reads.of_owns hown6))
      have B6 := Lib.hid (B5.out.trans (hb6.mono B5.out.size))
      clear hown6 hb6
      go_wp2_with fail
      refine (rsame_any v5 v6 _ _ _ R6.out.1 R6.out.2).mono ?_
      rintro e w7 ⟨rfl, hd7⟩
      have B7 := Lib.hid (B6.out.trans hd7.below)
      clear hd7
      rw [E.out.2.1]
      go_wp2_with fail
      refine (minus_any v u xs ys _ (HR.out.1.keep B7.out) (HR.out.2.keep B7.out) hnx hny).mono ?_
      rintro e w8 ⟨v8, rfl, hr8, hb8⟩
      obtain ⟨ao8, cap8, rfl, hrest⟩ := hr8
      clear hrest
      have B8 := Lib.hid (B7.out.trans (hb8.mono B7.out.size))
      have hE3 := E.out.2.2
      clear hb8 E
      generalize (mergeL true false false (ofL xs) (ofL ys)).length = n8 at *
      go_wp2
      go_ret
      exact ⟨rfl, B8.out⟩
    · rw [decide_eq_false h2] at hsm2
      have S2 := Lib.hid hsm2
      clear h2 hsm2
      go_enter Try.func9, Try.ntmps9
      go_wp2_with fail
      refine S1.out.mono ?_
      rintro e w1 ⟨rfl, rfl⟩
      go_wp2_with fail
      refine S2.out.mono ?_
      rintro e w1 ⟨rfl, rfl⟩
      go_wp2_with fail
      refine (awake_any _).mono ?_
      rintro e w1 ⟨rfl, hb1⟩
      have B1 := Lib.hid hb1
      clear hb1
      go_wp2
      go_ret
      exact ⟨rfl, B1.out⟩
  · rw [decide_eq_false h1] at hsm1
    have S1 := Lib.hid hsm1
    clear h1 hsm1
    go_enter Try.func9, Try.ntmps9
    go_wp2_with fail
    refine S1.out.mono ?_
    rintro e w1 ⟨rfl, rfl⟩
    go_wp2_with fail
    refine (awake_any _).mono ?_
    rintro e w1 ⟨rfl, hb1⟩
    have B1 := Lib.hid hb1
    clear hb1
    go_wp2
    go_ret
    exact ⟨rfl, B1.out⟩

set_option maxRecDepth 100000 in
theorem lifted (os : Os) (started : os.Started) (H : Type) (enc : TypeId × Value → H) :
    ReturnsInHanded {} Try.checked os 9 .any (Rows.namesSubsetSpec.pre6 enc Try.prog Try.f9 Rows.namesSubsetRow.domain false) (Rows.namesSubsetSpec.post enc Try.prog Try.f9 false true false false) := by
  refine returnsInHanded_of_change (C := Try.checked) own started (by kernel_rfl) Try.func9
    (ChangeSpec.witness6 (enc := enc) (C := Try.checked) false ⟨#[], #[.slice none 0 0, .slice none 0 0], []⟩ 8 (by kernel_rfl) (by kernel_rfl) (by kernel_rfl) (by kernel_rfl)) ?_
  intro W base args ds gs before hval0 hW hcnd _
  have hval : ∀ (j : Nat) t v, Try.f9.params[j]? = some t → args[j]? = some v → Value.okWide Try.prog W .any base t v := hval0
  have hW' := hW
  obtain ⟨p, q, hA0, hV, rfl, hfz, hnd⟩ := hW
  have hA : DataW.TrodAll enc Try.prog W 0 (fun _ => true) true Try.f9.params.toList args.toList ds p := hA0
  rw [Try.params9] at hA hval
  obtain ⟨v0, vs0, d0, ds0, p0, q0, hargs, rfl, rfl, h0, r0⟩ := trodAll_cons hA
  obtain ⟨v1, vs1, d1, ds1, p1, q1, rfl, rfl, rfl, h1, r1⟩ := trodAll_cons r0
  obtain ⟨rfl, rfl, rfl⟩ := trodAll_nil r1
  obtain rfl : args = #[v0, v1] := by cases args; simp_all
  obtain ⟨rfl, rfl⟩ := trodVars_none hV
  obtain ⟨xs0, hr0, hl0⟩ := open_reads (hval 0 24 v0 rfl rfl) h0
  obtain ⟨xs1, hr1, hl1⟩ := open_reads (hval 1 24 v1 rfl rfl) h1
  refine (walk v0 xs0 W hr0 hl0 v1 xs1 hr1 hl1).mono fun e W' ⟨he, hb⟩ => ?_
  subst he
  exact ⟨_, rfl, law_post laidOut rfl (fun _ _ => rfl) (by kernel_rfl) Try.underlying4 (by rw [Try.params9]; exact fun t ht => by simp at ht; rcases ht with  rfl ; all_goals exact ⟨by kernel_rfl, of_decide_eq_true (by kernel_rfl)⟩) hW' hb⟩

theorem over : Rows.namesSubsetRow.holds Try.pinned (OpenSpec.ofChange Rows.namesSubsetSpec) :=
  OpenClaim.holds_of_wide 9 Try.f9 rfl rfl rfl rfl rfl rfl rfl ⟨rfl, rfl, rfl, rfl, rfl⟩ rfl rfl rfl rfl rfl (by kernel_rfl) Try.func9 (by kernel_rfl)
    (of_decide_eq_true (by kernel_rfl)) (by unfold Func.isWrapper; first | (rw [if_pos (by decide +kernel)]; kernel_rfl) | (rw [if_neg (by decide +kernel)]; exact ⟨rfl, rfl⟩))
    (fun os started H enc _ => lifted os started H enc)

theorem proved : Rows.NamesSubsetSaid := over

end Go.Proofs.Ytgolodpihmdmoaa.namesSubset
