/-
  NamesParse: for every string the law returns true, and the string reads behind the call as before. No condition.
-/
import Derived.Test.YtgolodpihmdmoaaNr
import Derived.Test.YtgolodpihmdmoaaNq
import Derived.Test.YtgolodpihmdmoaaLp
namespace Go.Proofs.Ytgolodpihmdmoaa.namesParse
open Go.ChangeShapes Go.WideShapes Go.ChangeAt Go.RowKit
open Go.ChangeMaps (open_string shut_string)

def Fine (w : World) (e : Ending) (w' : World) : Prop := e = .returned (.bool true) ∧ Below w.heap.size w w'

theorem len_le_join : ∀ (L : List Str), L.length ≤ (Lib.join L [44]).length + 1
  | [] => by simp
  | [x] => by simp
  | x :: y :: r => by
    have := len_le_join (y :: r)
    rw [Lib.join_cons] at this ⊢
    simp [Lib.joinTail] at this ⊢; omega

set_option maxRecDepth 100000 in
set_option maxHeartbeats 2000000 in
theorem walk (s : ByteArray) (hs : s.size ≤ maxLen) (W : World) : Calls Try.prog 5 #[.string s] W (Fine W) := by
  have hsm : s.size ≤ 9223372036854775807 := hs
  clear hs
  by_cases h : 300 < s.size
  · go_enter Try.func5, Try.ntmps5
    go_wp2_with fail
    refine (awake_any _).mono ?_
    rintro e w1 ⟨rfl, hb⟩
    have HB := Lib.hid hb
    clear hb
    go_wp2
    go_ret
    exact ⟨rfl, HB.out⟩
  · have hsz : s.size ≤ 1000000 := by omega
    have hfacts := @parse_facts s.data.toList
    have hslen : s.data.toList.length = s.size := rfl
    rw [hslen] at hfacts
    have hp1 := fun w => parse_any s w hsz
    have hp2 := fun w => rparse_any s w hsz
    clear hslen
    generalize parseL s.data.toList = R at *
    obtain ⟨L, at', er⟩ := R
    unfold ParseMade at hp1 hp2
    simp only at hp1 hp2 hfacts
    have HP := Lib.hid (And.intro hp1 hp2)
    clear hp1 hp2
    have hAt : (at' == at') = true := beq_self_eq_true _
    have hAt2 : (at' != at') = false := by rw [bne, hAt]; rfl
    by_cases her : er = 0
    · subst her
      obtain ⟨hsrt, hval, hlen, hat⟩ := hfacts rfl
      have hT : textL L = ([123] ++ Lib.join L [44] ++ [125], 0) := by rw [textL_good hval, ofL_self hsrt]
      have hPT := parse_text hsrt hval
      have hLn : L.length ≤ 1000 := by have := len_le_join L; simp at hlen; omega
      have hvl : ∀ x ∈ L, x.length ≤ 9223372036854775807 := fun x hx => by have := valid_len (hval x hx); omega
      have hj : (Lib.join (ofL L) [44]).length ≤ 140737488355328 := by rw [ofL_self hsrt]; simp at hlen; omega
      have hTl : ([123] ++ Lib.join L [44] ++ [125] : Str).length ≤ s.size := hlen
      clear hlen
      generalize ([123] ++ Lib.join L [44] ++ [125] : Str) = T at *
      have hTs : (toB T).size ≤ s.size := hTl
      have HT := Lib.hid (And.intro hT (And.intro hPT (And.intro hj (And.intro hvl hTl))))
      clear hT hPT hj hsrt hval hat hvl hTl
      have B0 := Lib.hid (Below.refl W.heap.size W)
      go_enter Try.func5, Try.ntmps5
      go_wp2_with fail
      refine (HP.out.1 _).mono ?_
      rintro e w1 ⟨x1, rfl, hr1, hb1⟩
      have B1 := Lib.hid hb1
      have R1 := Lib.hid hr1
      clear hb1 hr1 B0
      go_wp2_with fail
      refine (HP.out.2 _).mono ?_
      rintro e w2 ⟨x2, rfl, hr2, hb2⟩
      have B2 := Lib.hid (B1.out.trans (Below.mono hb2 B1.out.size))
      have R2 := Lib.hid (And.intro (((R1.out).keep hb2)) (hr2))
      clear hr2 hb2
      go_wp2_with fail
      refine (rsame_any x1 x2 L L _ (R2.out.1) (R2.out.2)).mono ?_
      rintro e w3 ⟨rfl, hd3⟩
      have B3 := Lib.hid (B2.out.trans (Below.mono (hd3.below (B := W.heap.size)) (Nat.le_refl _)))
      have R3 := Lib.hid (And.intro (((R2.out.1).keep hd3.below)) (((R2.out.2).keep hd3.below)))
      clear hd3
      rw [decide_eq_true rfl]
      go_wp2_with fail
      refine (text_any x1 L _ (R3.out.1) HT.out.2.2.2.1 (by omega) (fun _ => HT.out.2.2.1)).mono ?_
      rintro e w4 ⟨rfl, hb4⟩
      have B4 := Lib.hid (B3.out.trans (Below.mono hb4 B3.out.size))
      have R4 := Lib.hid (And.intro (((R3.out.1).keep hb4)) (((R3.out.2).keep hb4)))
      rw [HT.out.1]
      clear hb4
      unfold vs
      go_wp2_with fail
      refine (parse_any (toB T) _ (by have := HT.out.2.2.2.2; rw [size_toB]; omega)).mono ?_
      rintro e w5 ⟨x5, rfl, hr5, hb5⟩
      have B5 := Lib.hid (B4.out.trans (Below.mono hb5 B4.out.size))
      have R5 := Lib.hid (And.intro (((R4.out.1).keep hb5)) (And.intro (((R4.out.2).keep hb5)) ((show Reads vs _ x5 L from by rw [data_toB, HT.out.2.1] at hr5; exact hr5))))
      rw [data_toB, HT.out.2.1]
      clear hr5 hb5
      go_wp2_with fail
      refine (awake_any _).mono ?_
      rintro e w6 ⟨rfl, hba⟩
      have B6 := Lib.hid (B5.out.trans (Below.mono hba B5.out.size))
      have R6 := Lib.hid (And.intro (((R5.out.1).keep hba)) (And.intro (((R5.out.2.1).keep hba)) (((R5.out.2.2).keep hba))))
      clear hba
      go_wp2_with fail
      refine (rsame_any x5 x1 L L _ (R6.out.2.2) (R6.out.1)).mono ?_
      rintro e w7 ⟨rfl, hd7⟩
      have B7 := Lib.hid (B6.out.trans (Below.mono (hd7.below (B := W.heap.size)) (Nat.le_refl _)))
      have R7 := Lib.hid (And.intro (((R6.out.1).keep hd7.below)) (And.intro (((R6.out.2.1).keep hd7.below)) (((R6.out.2.2).keep hd7.below))))
      clear hd7
      rw [decide_eq_true rfl]
      go_wp2
      go_ret
      exact ⟨rfl, B7.out⟩
    · have hE1 : (er == er) = true := beq_self_eq_true _
      have hE2 : (er != er) = false := by rw [bne, hE1]; rfl
      have hE3 : (er == 0) = false := by simpa using her
      have hE4 : (er != 0) = true := by simpa using her
      clear hfacts her
      go_enter Try.func5, Try.ntmps5
      go_wp2_with fail
      refine (HP.out.1 _).mono ?_
      rintro e w1 ⟨x1, rfl, hr1, hb1⟩
      have B1 := Lib.hid hb1
      have R1 := Lib.hid hr1
      clear hb1 hr1
      go_wp2_with fail
      refine (HP.out.2 _).mono ?_
      rintro e w2 ⟨x2, rfl, hr2, hb2⟩
      have B2 := Lib.hid (B1.out.trans (Below.mono hb2 B1.out.size))
      have R2 := Lib.hid (And.intro (((R1.out).keep hb2)) (hr2))
      clear hr2 hb2
      go_wp2_with fail
      refine (rsame_any x1 x2 L L _ (R2.out.1) (R2.out.2)).mono ?_
      rintro e w3 ⟨rfl, hd3⟩
      have B3 := Lib.hid (B2.out.trans (Below.mono (hd3.below (B := W.heap.size)) (Nat.le_refl _)))
      have R3 := Lib.hid (And.intro (((R2.out.1).keep hd3.below)) (((R2.out.2).keep hd3.below)))
      clear hd3
      rw [decide_eq_true rfl]
      go_wp2_with fail
      refine (awake_any _).mono ?_
      rintro e w4 ⟨rfl, hba⟩
      have B4 := Lib.hid (B3.out.trans (Below.mono hba B3.out.size))
      have R4 := Lib.hid (And.intro (((R3.out.1).keep hba)) (((R3.out.2).keep hba)))
      clear hba
      go_wp2
      go_ret
      exact ⟨rfl, B4.out⟩

set_option maxRecDepth 100000 in
theorem lifted (os : Os) (started : os.Started) (H : Type) (enc : TypeId × Value → H) :
    ReturnsInHanded {} Try.checked os 5 .any (Rows.namesParseSpec.pre6 enc Try.prog Try.f5 Rows.namesParseRow.domain false) (Rows.namesParseSpec.post enc Try.prog Try.f5 false true false false) := by
  refine returnsInHanded_of_change (C := Try.checked) own started (by kernel_rfl) Try.func5
    (ChangeSpec.witness6 (enc := enc) (C := Try.checked) false ⟨#[], #[.string ByteArray.empty], []⟩ 8 (by kernel_rfl) (by kernel_rfl) (by kernel_rfl) (by kernel_rfl)) ?_
  intro W base args ds gs before hval0 hW hcnd _
  have hval : ∀ (j : Nat) t v, Try.f5.params[j]? = some t → args[j]? = some v → Value.okWide Try.prog W .any base t v := hval0
  have hW' := hW
  obtain ⟨p, q, hA0, hV, rfl, hfz, hnd⟩ := hW
  have hA : DataW.TrodAll enc Try.prog W 0 (fun _ => true) true Try.f5.params.toList args.toList ds p := hA0
  rw [Try.params5] at hA hval
  obtain ⟨v0, vs0, d0, ds0, p0, q0, hargs, rfl, rfl, h0, r0⟩ := trodAll_cons hA
  obtain ⟨rfl, rfl, rfl⟩ := trodAll_nil r0
  obtain rfl : args = #[v0] := by cases args; simp_all
  obtain ⟨rfl, rfl⟩ := trodVars_none hV
  obtain ⟨a0, rfl, _, _, w0⟩ := open_string Try.underlying9 (hval 0 9 v0 rfl rfl) h0
  refine (walk a0 w0 W).mono fun e W' ⟨he, hb⟩ => ?_
  subst he
  exact ⟨_, rfl, law_post laidOut rfl (fun _ _ => rfl) (by kernel_rfl) Try.underlying4 (by rw [Try.params5]; exact fun t ht => by simp at ht; rcases ht with  rfl ; all_goals exact ⟨by kernel_rfl, of_decide_eq_true (by kernel_rfl)⟩) hW' hb⟩

theorem over : Rows.namesParseRow.holds Try.pinned (OpenSpec.ofChange Rows.namesParseSpec) :=
  OpenClaim.holds_of_wide 5 Try.f5 rfl rfl rfl rfl rfl rfl rfl ⟨rfl, rfl, rfl, rfl, rfl⟩ rfl rfl rfl rfl rfl (by kernel_rfl) Try.func5 (by kernel_rfl)
    (of_decide_eq_true (by kernel_rfl)) (by unfold Func.isWrapper; first | (rw [if_pos (by decide +kernel)]; kernel_rfl) | (rw [if_neg (by decide +kernel)]; exact ⟨rfl, rfl⟩))
    (fun os started H enc _ => lifted os started H enc)

theorem proved : Rows.NamesParseSaid := over

end Go.Proofs.Ytgolodpihmdmoaa.namesParse
