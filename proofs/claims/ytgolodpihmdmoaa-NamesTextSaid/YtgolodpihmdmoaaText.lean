/-
  NamesText: for every list the law returns true, and the list reads behind the call as before. No condition.
-/
import Derived.Test.YtgolodpihmdmoaaNr
import Derived.Test.YtgolodpihmdmoaaNq
import Derived.Test.YtgolodpihmdmoaaLp
namespace Go.Proofs.Ytgolodpihmdmoaa.namesText
open Go.ChangeShapes Go.WideShapes Go.ChangeAt Go.RowKit

def Fine (w : World) (e : Ending) (w' : World) : Prop := e = .returned (.bool true) ∧ Below w.heap.size w w'

theorem join_bound {xs : List Str} (hs : Small xs) (hv : ∀ x ∈ xs, validL x = true) : (Lib.join (ofL xs) [44]).length ≤ 600 := by
  by_cases h : ofL xs = []
  · rw [h]; simp [Lib.join_nil]
  · have h1 := join_len _ h
    have h2 : ∀ (L : List Str), (∀ x ∈ L, x.length ≤ 16) → lens L ≤ 17 * L.length := by
      intro L
      induction L with
      | nil => intro _; simp [lens]
      | cons a r ih =>
        intro hl
        have := ih (fun x hx => hl x (by simp [hx]))
        have := hl a (by simp)
        simp [lens] at *; omega
    have h3 := h2 (ofL xs) (fun x hx => valid_len (hv x ((mem_ofL xs x).1 hx)))
    have h4 := ofL_length xs
    have h5 := hs.1
    omega

set_option maxHeartbeats 2000000 in
theorem walk (v : Value) (xs : List Str) (W : World) (hr : Reads vs W v xs) (hs : ∀ x ∈ xs, x.length ≤ maxLen) : Calls Try.prog 4 #[v] W (Fine W) := by
  have hsm1 := small_any v xs W hr hs
  have hs' : ∀ x ∈ xs, x.length ≤ 9223372036854775807 := hs
  have HS := Lib.hid hs'
  clear hs hs'
  by_cases h1 : Small xs
  · rw [decide_eq_true h1] at hsm1
    have S1 := Lib.hid hsm1
    have N := Lib.hid h1
    have hnx : xs.length ≤ 30 := h1.1
    clear hsm1 h1
    by_cases hv : ∀ x ∈ xs, validL x = true
    · have hT : textL xs = ([123] ++ Lib.join (ofL xs) [44] ++ [125], 0) := textL_good hv
      have hP := parse_text (ofL_sorted xs) (fun n hn => hv n ((mem_ofL xs n).1 hn))
      have hj := join_bound N.out hv
      have hTl : ([123] ++ Lib.join (ofL xs) [44] ++ [125] : Str).length ≤ 1000 := by simp; omega
      generalize ([123] ++ Lib.join (ofL xs) [44] ++ [125] : Str) = T at *
      have HT := Lib.hid (And.intro hT (And.intro hP hj))
      have HTL := Lib.hid hTl
      have hTT : ((toB T).toList == (toB T).toList) = true := beq_self_eq_true _
      have hTF : ((toB T).toList != (toB T).toList) = false := by rw [bne, hTT]; rfl
      clear hT hP hj hv hTl
      have R0 := Lib.hid (hr)
      have B0 := Lib.hid (Below.refl W.heap.size W)
      clear hr
      go_enter Try.func4, Try.ntmps4
      go_wp2_with fail
      refine S1.out.mono ?_
      rintro e w0x ⟨rfl, rfl⟩
      go_wp2_with fail
      refine (text_any v xs _ (R0.out) HS.out (by omega) (fun _ => by have := HT.out.2.2; omega)).mono ?_
      rintro e w1 ⟨rfl, hbt⟩
      have B1 := Lib.hid (B0.out.trans (Below.mono hbt B0.out.size))
      have R1 := Lib.hid (((R0.out).keep hbt))
      clear hbt
      rw [HT.out.1]
      go_wp2_with fail
      refine (rtext_any v xs _ (R1.out) (by omega) HS.out).mono ?_
      rintro e w2 ⟨rfl, hbt⟩
      have B2 := Lib.hid (B1.out.trans (Below.mono hbt B1.out.size))
      have R2 := Lib.hid (((R1.out).keep hbt))
      clear hbt
      rw [HT.out.1]
      unfold vs
      go_wp2_with fail
      refine (parse_any (toB T) _ (by rw [size_toB]; have := HTL.out; omega)).mono ?_
      rintro e w3 ⟨xb, rfl, hrb, hbb⟩
      have B3 := Lib.hid (B2.out.trans (Below.mono hbb B2.out.size))
      have R3 := Lib.hid (And.intro (((R2.out).keep hbb)) ((show Reads vs _ xb (ofL xs) from by rw [data_toB, HT.out.2.1] at hrb; exact hrb)))
      rw [data_toB, HT.out.2.1]
      clear hrb hbb
      go_wp2_with fail
      refine (awake_any _).mono ?_
      rintro e w4 ⟨rfl, hba⟩
      have B4 := Lib.hid (B3.out.trans (Below.mono hba B3.out.size))
      have R4 := Lib.hid (And.intro (((R3.out.1).keep hba)) (((R3.out.2).keep hba)))
      clear hba
      go_wp2_with fail
      refine (of_any v xs _ (R4.out.1) (by omega)).mono ?_
      rintro e w5 ⟨xo, rfl, hro, hbo⟩
      have B5 := Lib.hid (B4.out.trans (Below.mono hbo B4.out.size))
      have R5 := Lib.hid (And.intro (((R4.out.1).keep hbo)) (And.intro (((R4.out.2).keep hbo)) ((Reads.of_owns hro))))
      clear hro hbo
      go_wp2_with fail
      refine (rsame_any xb xo (ofL xs) (ofL xs) _ (R5.out.2.1) (R5.out.2.2)).mono ?_
      rintro e w6 ⟨rfl, hd6⟩
      have B6 := Lib.hid (B5.out.trans (Below.mono (hd6.below (B := W.heap.size)) (Nat.le_refl _)))
      have R6 := Lib.hid (And.intro (((R5.out.1).keep hd6.below)) (And.intro (((R5.out.2.1).keep hd6.below)) (((R5.out.2.2).keep hd6.below))))
      clear hd6
      rw [decide_eq_true rfl]
      go_wp2
      go_ret
      exact ⟨rfl, B6.out⟩
    · have hT : textL xs = ([], 3) := by unfold textL; rw [if_neg]; intro h; exact hv (fun x hx => List.all_eq_true.1 h x hx)
      have HT := Lib.hid hT
      clear hT
      have R0 := Lib.hid (hr)
      have B0 := Lib.hid (Below.refl W.heap.size W)
      clear hr
      go_enter Try.func4, Try.ntmps4
      go_wp2_with fail
      refine S1.out.mono ?_
      rintro e w0x ⟨rfl, rfl⟩
      have HV := Lib.hid hv
      clear hv
      go_wp2_with fail
      refine (text_any v xs _ (R0.out) HS.out (by omega) (fun h => absurd h HV.out)).mono ?_
      rintro e w1 ⟨rfl, hbt⟩
      have B1 := Lib.hid (B0.out.trans (Below.mono hbt B0.out.size))
      have R1 := Lib.hid (((R0.out).keep hbt))
      clear hbt
      rw [HT.out]
      go_wp2_with fail
      refine (rtext_any v xs _ (R1.out) (by omega) HS.out).mono ?_
      rintro e w2 ⟨rfl, hbt⟩
      have B2 := Lib.hid (B1.out.trans (Below.mono hbt B1.out.size))
      have R2 := Lib.hid (((R1.out).keep hbt))
      clear hbt
      rw [HT.out]
      have hTT : ((toB []).toList == (toB []).toList) = true := beq_self_eq_true _
      have hTF : ((toB []).toList != (toB []).toList) = false := by rw [bne, hTT]; rfl
      unfold vs
      go_wp2_with fail
      refine (awake_any _).mono ?_
      rintro e w3 ⟨rfl, hba⟩
      have B3 := Lib.hid (B2.out.trans (Below.mono hba B2.out.size))
      have R3 := Lib.hid (((R2.out).keep hba))
      clear hba
      go_wp2
      go_ret
      exact ⟨rfl, B3.out⟩
  · rw [decide_eq_false h1] at hsm1
    have S1 := Lib.hid hsm1
    clear hsm1 h1
    have R0 := Lib.hid (hr)
    have B0 := Lib.hid (Below.refl W.heap.size W)
    clear hr
    go_enter Try.func4, Try.ntmps4
    go_wp2_with fail
    refine S1.out.mono ?_
    rintro e w0x ⟨rfl, rfl⟩
    go_wp2_with fail
    refine (awake_any _).mono ?_
    rintro e w1 ⟨rfl, hba⟩
    have B1 := Lib.hid (B0.out.trans (Below.mono hba B0.out.size))
    have R1 := Lib.hid (((R0.out).keep hba))
    clear hba
    go_wp2
    go_ret
    exact ⟨rfl, B1.out⟩

set_option maxRecDepth 100000 in
theorem lifted (os : Os) (started : os.Started) (H : Type) (enc : TypeId × Value → H) :
    ReturnsInHanded {} Try.checked os 4 .any (Rows.namesTextSpec.pre6 enc Try.prog Try.f4 Rows.namesTextRow.domain false) (Rows.namesTextSpec.post enc Try.prog Try.f4 false true false false) := by
  refine returnsInHanded_of_change (C := Try.checked) own started (by kernel_rfl) Try.func4
    (ChangeSpec.witness6 (enc := enc) (C := Try.checked) false ⟨#[], #[.slice none 0 0], []⟩ 8 (by kernel_rfl) (by kernel_rfl) (by kernel_rfl) (by kernel_rfl)) ?_
  intro W base args ds gs before hval0 hW hcnd _
  have hval : ∀ (j : Nat) t v, Try.f4.params[j]? = some t → args[j]? = some v → Value.okWide Try.prog W .any base t v := hval0
  have hW' := hW
  obtain ⟨p, q, hA0, hV, rfl, hfz, hnd⟩ := hW
  have hA : DataW.TrodAll enc Try.prog W 0 (fun _ => true) true Try.f4.params.toList args.toList ds p := hA0
  rw [Try.params4] at hA hval
  obtain ⟨v0, vs0, d0, ds0, p0, q0, hargs, rfl, rfl, h0, r0⟩ := trodAll_cons hA
  obtain ⟨rfl, rfl, rfl⟩ := trodAll_nil r0
  obtain rfl : args = #[v0] := by cases args; simp_all
  obtain ⟨rfl, rfl⟩ := trodVars_none hV
  obtain ⟨xs0, hr0, hl0⟩ := open_reads (hval 0 24 v0 rfl rfl) h0
  refine (walk v0 xs0 W hr0 hl0).mono fun e W' ⟨he, hb⟩ => ?_
  subst he
  exact ⟨_, rfl, law_post laidOut rfl (fun _ _ => rfl) (by kernel_rfl) Try.underlying4 (by rw [Try.params4]; exact fun t ht => by simp at ht; rcases ht with  rfl ; all_goals exact ⟨by kernel_rfl, of_decide_eq_true (by kernel_rfl)⟩) hW' hb⟩

theorem over : Rows.namesTextRow.holds Try.pinned (OpenSpec.ofChange Rows.namesTextSpec) :=
  OpenClaim.holds_of_wide 4 Try.f4 rfl rfl rfl rfl rfl rfl rfl ⟨rfl, rfl, rfl, rfl, rfl⟩ rfl rfl rfl rfl rfl (by kernel_rfl) Try.func4 (by kernel_rfl)
    (of_decide_eq_true (by kernel_rfl)) (by unfold Func.isWrapper; first | (rw [if_pos (by decide +kernel)]; kernel_rfl) | (rw [if_neg (by decide +kernel)]; exact ⟨rfl, rfl⟩))
    (fun os started H enc _ => lifted os started H enc)

theorem proved : Rows.NamesTextSaid := over

end Go.Proofs.Ytgolodpihmdmoaa.namesText
