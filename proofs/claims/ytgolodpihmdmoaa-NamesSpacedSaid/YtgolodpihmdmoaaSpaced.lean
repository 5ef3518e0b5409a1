/-
  NamesSpaced: for every list and every gaps the law returns true, and both read behind the call as before. No condition.
-/
import Derived.Test.YtgolodpihmdmoaaNu
import Derived.Test.YtgolodpihmdmoaaNk
namespace Go.Proofs.Ytgolodpihmdmoaa.namesSpaced
open Go.ChangeShapes Go.WideShapes Go.ChangeAt Go.RowKit

def Fine (w : World) (e : Ending) (w' : World) : Prop := e = .returned (.bool true) ∧ Below w.heap.size w w'

def headT (xs : List Str) (gs : List Int) (k : Nat) : Str := gapL gs 0 ++ 123 :: bodyT xs gs k

theorem str_start (xs : List Str) (gs : List Int) : toB (gapL gs 0) ++ ⟨#[123]⟩ ++ toB (gapL gs 1) = toB (headT xs gs 0) := by
  rw [show (⟨#[123]⟩ : ByteArray) = toB [123] from rfl, toB_append, toB_append]; simp [headT, bodyT]
theorem str_first {xs : List Str} (gs : List Int) {k : Nat} (h : k < xs.length) (h0 : k = 0) : toB (headT xs gs k) ++ toB (gapL gs (2 * k + 3)) ++ (toB xs[k] ++ toB (gapL gs (2 * k + 4))) = toB (headT xs gs (k + 1)) := by
  rw [toB_append, toB_append, toB_append]; unfold headT; rw [bodyT_succ xs gs h]; simp [commaT, h0]
theorem str_next {xs : List Str} (gs : List Int) {k : Nat} (h : k < xs.length) (h0 : k ≠ 0) : toB (headT xs gs k) ++ ⟨#[44]⟩ ++ toB (gapL gs (2 * k + 3)) ++ (toB xs[k] ++ toB (gapL gs (2 * k + 4))) = toB (headT xs gs (k + 1)) := by
  rw [show (⟨#[44]⟩ : ByteArray) = toB [44] from rfl, toB_append, toB_append, toB_append, toB_append]; unfold headT; rw [bodyT_succ xs gs h]; simp [commaT, h0]
theorem str_place (xs : List Str) (gs : List Int) {k : Nat} (h0 : k ≠ 0) : ((toB (headT xs gs k)).size : Int) + 1 + ((toB (gapL gs (2 * k + 3))).size : Int) = (placeT xs gs k : Int) := by
  rw [size_toB, size_toB]; simp [headT, placeT, commaT, h0]; omega
theorem str_end (xs : List Str) (gs : List Int) {k : Nat} (h : k = xs.length) : toB (headT xs gs k) ++ (⟨#[125]⟩ ++ toB (gapL gs 2)) = toB (wholeT xs gs) := by
  rw [show (⟨#[125]⟩ : ByteArray) = toB [125] from rfl, toB_append, toB_append]; subst h; simp [headT, wholeT]
theorem whole_len (xs : List Str) (gs : List Int) (hs : Small xs) : (wholeT xs gs).length ≤ 10000 := by
  have h1 := bodyT_len xs gs hs.2 xs.length (Nat.le_refl _)
  have h2 := gapL_len gs 0
  have h3 := gapL_len gs 2
  have h4 := hs.1
  unfold wholeT; simp only [List.length_append, List.length_cons]; omega
theorem size_gap (gs : List Int) (i : Nat) : (toB (gapL gs i)).size ≤ 3 := gapL_len gs i
theorem size_head (xs : List Str) (gs : List Int) (hs : Small xs) {k : Nat} (hk : k ≤ xs.length) : (toB (headT xs gs k)).size ≤ 5000 := by
  have h1 := bodyT_len xs gs hs.2 k hk
  have h2 := gapL_len gs 0
  have h4 := hs.1
  rw [size_toB]; unfold headT; simp only [List.length_append, List.length_cons]; omega
theorem snoc_valid {xs : List Str} {k : Nat} (h : k < xs.length) (hp : ∀ s ∈ xs.take k, validL s = true) (hk : validL xs[k] = true) : ∀ s ∈ xs.take (k + 1), validL s = true := by
  rw [List.take_succ_eq_append_getElem h]
  intro s hs
  rcases List.mem_append.1 hs with h | h
  · exact hp s h
  · simp at h; subst h; exact hk

set_option maxRecDepth 100000 in
set_option maxHeartbeats 8000000 in
theorem walk (v : Value) (xs : List Str) (W : World) (hr : Reads vs W v xs) (hs : ∀ x ∈ xs, x.length ≤ maxLen) (u : Value) (gs : List Int) (hq : Reads vn W u gs) (hg : ∀ c ∈ gs, 0 ≤ c ∧ c < 256) :
    Calls Try.prog 6 #[v, u] W (Fine W) := by
  have hsm1 := small_any v xs W hr hs
  have hgap0 : ∀ (i : Nat) w', i < 1000 → Below W.heap.size W w' → Calls Try.prog 22 #[u, .int .i64 i] w' (fun e w'' => e = .returned (.string (toB (gapL gs i))) ∧ w' = w'') := fun i w' hi hb => gap_any u gs i w' (hq.keep hb) hg hi
  have HG := Lib.hid hgap0
  clear hgap0 hg
  obtain ⟨au, cu, rfl, hlu, hmu, _, _⟩ := hq
  unfold maxLen at hmu
  by_cases h1 : Small xs
  · rw [decide_eq_true h1] at hsm1
    have S1 := Lib.hid hsm1
    clear hsm1
    by_cases h2 : gs.length ≤ 100
    · have HSM := Lib.hid (And.intro h1 hs)
      have hnx : xs.length ≤ 30 := h1.1
      have HR := Lib.hid hr
      clear h1 hs
      obtain ⟨ao, cap, rfl, hl, hm, hno, hx⟩ := hr
      unfold maxLen at hm
      have HXX := Lib.hid hx
      clear hx hno
      have z0 := size_gap gs 0
      have z1 := size_gap gs 1
      go_enter Try.func6, Try.ntmps6
      go_wp2_with fail
      refine S1.out.mono ?_
      rintro e w0x ⟨rfl, rfl⟩
      go_wp2_with fail
      refine (HG.out 0 _ (by omega) (Below.refl _ _)).mono ?_
      rintro e w0x ⟨rfl, rfl⟩
      go_wp2_with fail
      refine (HG.out 1 _ (by omega) (Below.refl _ _)).mono ?_
      rintro e w0x ⟨rfl, rfl⟩
      have hstart := str_start xs gs
      go_wp2
      clear hstart z0 z1
      go_loopg [5, 6, 7] xs.length (fun m s tw i wr => ∃ k : Nat, m + k = xs.length ∧ i = .int .i64 k ∧ s = .string (toB (headT xs gs k)) ∧ (∃ t : Int, tw = .int .i64 t ∧ TwiceAt xs gs k t) ∧ (∀ x ∈ xs.take k, validL x = true) ∧ Drew W wr)
      case atStart => exact ⟨0, by omega, rfl, rfl, ⟨-1, rfl, .inl ⟨by simp, rfl⟩⟩, by simp, Drew.refl _⟩
      case round =>
        obtain ⟨k, hk, rfl, rfl, ⟨t, rfl, ht⟩, hv, hd⟩ := hrel
        have HK := Lib.hid (And.intro hk (And.intro hv hd))
        have hk2 : k ≤ xs.length := by omega
        clear hk hv hd
        have zh := size_head xs gs HSM.out.1 hk2
        by_cases hlt : k < xs.length
        · obtain ⟨b, off, rfl, hb, hc⟩ := HXX.out (by intro e; subst e; simp at hlt)
          have h1 : wr.cell? ⟨b, off + k, none⟩ = some (.string (toB xs[k])) := (HK.out.2.2.cell _).trans (hc k hlt)
          have hv := valid_any (toB xs[k]) wr (HSM.out.2 _ (List.getElem_mem _))
          rw [data_toB] at hv
          obtain ⟨v', hcut, hrt⟩ := cut_high under_slice elem_str size_str rfl HR.out (k : Int) (by omega) (by omega)
          rw [Int.toNat_natCast] at hrt
          have hg3 : Calls Try.prog 22 #[.slice au gs.length cu, .int .i64 (2 * (k : Int) + 3)] wr (fun e w'' => e = .returned (.string (toB (gapL gs (2 * k + 3)))) ∧ wr = w'') := by
            have := HG.out (2 * k + 3) wr (by omega) HK.out.2.2.below
            rw [show ((2 * k + 3 : Nat) : Int) = 2 * (k : Int) + 3 by omega] at this
            exact this
          have hg4 : ∀ w', Drew W w' → Calls Try.prog 22 #[.slice au gs.length cu, .int .i64 (2 * (k : Int) + 4)] w' (fun e w'' => e = .returned (.string (toB (gapL gs (2 * k + 4)))) ∧ w'' = w') := fun w' hd => by
            have := HG.out (2 * k + 4) w' (by omega) hd.below
            rw [show ((2 * k + 4 : Nat) : Int) = 2 * (k : Int) + 4 by omega] at this
            exact this.mono fun _ _ ⟨a, b⟩ => ⟨a, b.symm⟩
          have hhas : ∀ n, Calls Try.prog 23 #[v', .string (toB xs[k])] (wr.drewN n) (fun e w'' => e = .returned (.bool (decide (xs[k] ∈ xs.take k))) ∧ w'' = wr.drewN n) := fun n => by
            have := has_any v' (xs.take k) xs[k] (wr.drewN n) (hrt.keep (HK.out.2.2.below.trans (below_drewN n)))
            exact this.mono fun _ _ ⟨a, b⟩ => ⟨a, b.symm⟩
          have G3 := Lib.hid hg3
          have G4 := Lib.hid hg4
          clear hc HXX hrt hg3 hg4 hb
          by_cases hval : validL xs[k] = true
          · rw [hval] at hv
            have HV := Lib.hid (And.intro hv hval)
            clear hv hval
            have z3 := size_gap gs (2 * k + 3)
            have z4 := size_gap gs (2 * k + 4)
            have zx : (toB xs[k]).size ≤ 40 := HSM.out.1.2 _ (List.getElem_mem _)
            generalize hxk : xs[k] = xk at h1 hhas HV zx
            have HXK := Lib.hid hxk
            clear hxk
            by_cases h0 : k = 0
            · have ht1 : t = -1 := by
                rcases ht with ⟨_, h⟩ | ⟨j, _, hj, _⟩
                · exact h
                · omega
              subst ht1
              have hm : xk ∉ xs.take k := by rw [h0]; simp
              have HM := Lib.hid hm
              have HT := Lib.hid ht
              clear hm ht
              rw [show decide (xk ∈ xs.take k) = false from by simp [HM.out]] at hhas
              have HH := Lib.hid hhas
              clear hhas
              have hstr := str_first gs hlt h0
              have hdk : decide ((0 : Int) < (k : Int)) = false := decide_eq_false (by omega)
              have hdk2 : decide (0 < k) = false := decide_eq_false (by omega)
              clear h0
              rw [HXK.out] at hstr
              have HSTR := Lib.hid hstr
              clear hstr
              go_wp2_with fail
              refine HV.out.1.mono ?_
              rintro e w0x ⟨rfl, rfl⟩
              go_wp2_with fail
              refine G3.out.mono ?_
              rintro e w0x ⟨rfl, rfl⟩
              go_wp2
              go_quiet ((go_at_call 23; exact Calls.quiet_of_same (HH.out _)))
              go_wp2
              have e1 : IntKind.i64.wrap (2 * (k : Int)) = 2 * (k : Int) := IntWalk.i64_in _ (by omega)
              have e2 : IntKind.i64.wrap (2 * (k : Int) + 4) = 2 * (k : Int) + 4 := IntWalk.i64_in _ (by omega)
              go_quiet ((go_at_call 22; exact (G4.out _ (HK.out.2.2.step _)).mono fun _ _ ⟨a, b⟩ => ⟨a, _, b⟩))
              clear e1 e2
              go_wp2
              go_roundg (xs.length - (k + 1))
              case measure => have := HK.out.1; omega
              case rel => exact ⟨k + 1, by omega, by go_num, by rw [HSTR.out], ⟨_, rfl, (twice_new hlt (by rcases HT.out with h | ⟨j, _, _, _, _, h⟩; exact h.1; omega) (by rw [HXK.out]; exact HM.out))⟩, snoc_valid hlt HK.out.2.1 (by rw [HXK.out]; exact HV.out.2), (by first | exact (HK.out.2.2.step _).step _ | exact HK.out.2.2.step _)⟩
            · rcases ht with ⟨hnd, rfl⟩ | hold
              · by_cases hm : xk ∈ xs.take k
                · have HM := Lib.hid hm
                  have HN := Lib.hid hnd
                  clear hm hnd
                  rw [show decide (xk ∈ xs.take k) = true from by simp [HM.out]] at hhas
                  have HH := Lib.hid hhas
                  clear hhas
                  have hstr := str_next gs hlt h0
                  have hplace := str_place xs gs h0
                  rw [HXK.out] at hstr
                  have HSTR := Lib.hid hstr
                  clear hstr
                  have HPL := Lib.hid hplace
                  clear hplace
                  go_wp2_with fail
                  refine HV.out.1.mono ?_
                  rintro e w0x ⟨rfl, rfl⟩
                  go_wp2_with fail
                  refine G3.out.mono ?_
                  rintro e w0x ⟨rfl, rfl⟩
                  go_wp2
                  go_quiet ((go_at_call 23; exact Calls.quiet_of_same (HH.out _)))
                  go_wp2
                  have e1 : IntKind.i64.wrap (2 * (k : Int)) = 2 * (k : Int) := IntWalk.i64_in _ (by omega)
                  have e2 : IntKind.i64.wrap (2 * (k : Int) + 4) = 2 * (k : Int) + 4 := IntWalk.i64_in _ (by omega)
                  go_quiet ((go_at_call 22; exact (G4.out _ (HK.out.2.2.step _)).mono fun _ _ ⟨a, b⟩ => ⟨a, _, b⟩))
                  clear e1 e2
                  go_wp2
                  go_roundg (xs.length - (k + 1))
                  case measure => have := HK.out.1; omega
                  case rel => exact ⟨k + 1, by omega, by go_num, by rw [HSTR.out], ⟨_, rfl, (by have := twice_dup (gs := gs) hlt HN.out (by rw [HXK.out]; exact HM.out); rw [← HPL.out] at this; exact this)⟩, snoc_valid hlt HK.out.2.1 (by rw [HXK.out]; exact HV.out.2), (by first | exact (HK.out.2.2.step _).step _ | exact HK.out.2.2.step _)⟩
                · have HM := Lib.hid hm
                  have HN := Lib.hid hnd
                  clear hm hnd
                  rw [show decide (xk ∈ xs.take k) = false from by simp [HM.out]] at hhas
                  have HH := Lib.hid hhas
                  clear hhas
                  have hstr := str_next gs hlt h0
                  have hplace := str_place xs gs h0
                  rw [HXK.out] at hstr
                  have HSTR := Lib.hid hstr
                  clear hstr
                  have HPL := Lib.hid hplace
                  clear hplace
                  go_wp2_with fail
                  refine HV.out.1.mono ?_
                  rintro e w0x ⟨rfl, rfl⟩
                  go_wp2_with fail
                  refine G3.out.mono ?_
                  rintro e w0x ⟨rfl, rfl⟩
                  go_wp2
                  go_quiet ((go_at_call 23; exact Calls.quiet_of_same (HH.out _)))
                  go_wp2
                  have e1 : IntKind.i64.wrap (2 * (k : Int)) = 2 * (k : Int) := IntWalk.i64_in _ (by omega)
                  have e2 : IntKind.i64.wrap (2 * (k : Int) + 4) = 2 * (k : Int) + 4 := IntWalk.i64_in _ (by omega)
                  go_quiet ((go_at_call 22; exact (G4.out _ (HK.out.2.2.step _)).mono fun _ _ ⟨a, b⟩ => ⟨a, _, b⟩))
                  clear e1 e2
                  go_wp2
                  go_roundg (xs.length - (k + 1))
                  case measure => have := HK.out.1; omega
                  case rel => exact ⟨k + 1, by omega, by go_num, by rw [HSTR.out], ⟨_, rfl, (twice_new hlt HN.out (by rw [HXK.out]; exact HM.out))⟩, snoc_valid hlt HK.out.2.1 (by rw [HXK.out]; exact HV.out.2), (by first | exact (HK.out.2.2.step _).step _ | exact HK.out.2.2.step _)⟩
              · have ht0 : 0 ≤ t := by
                  obtain ⟨j, _, _, _, _, h⟩ := hold
                  omega
                have HO := Lib.hid hold
                clear hold hhas
                have hstr := str_next gs hlt h0
                have hplace := str_place xs gs h0
                rw [HXK.out] at hstr
                have HSTR := Lib.hid hstr
                clear hstr
                have HPL := Lib.hid hplace
                clear hplace
                go_wp2_with fail
                refine HV.out.1.mono ?_
                rintro e w0x ⟨rfl, rfl⟩
                go_wp2_with fail
                refine G3.out.mono ?_
                rintro e w0x ⟨rfl, rfl⟩
                go_wp2
                have hd1 : decide (t < 0) = false := decide_eq_false (by omega)
                have hd2 : ¬ t < 0 := by omega
                go_quiet (fail)
                clear hd1 hd2
                go_wp2
                have e1 : IntKind.i64.wrap (2 * (k : Int)) = 2 * (k : Int) := IntWalk.i64_in _ (by omega)
                have e2 : IntKind.i64.wrap (2 * (k : Int) + 4) = 2 * (k : Int) + 4 := IntWalk.i64_in _ (by omega)
                go_quiet ((go_at_call 22; exact (G4.out _ (HK.out.2.2.step _)).mono fun _ _ ⟨a, b⟩ => ⟨a, _, b⟩))
                clear e1 e2
                go_wp2
                go_roundg (xs.length - (k + 1))
                case measure => have := HK.out.1; omega
                case rel => exact ⟨k + 1, by omega, by go_num, by rw [HSTR.out], ⟨_, rfl, (twice_old HO.out)⟩, snoc_valid hlt HK.out.2.1 (by rw [HXK.out]; exact HV.out.2), (by first | exact (HK.out.2.2.step _).step _ | exact HK.out.2.2.step _)⟩
          · have hval : validL xs[k] = false := by simpa using hval
            rw [hval] at hv
            have HV := Lib.hid hv
            clear hv hval hhas
            go_wp2_with fail
            refine HV.out.mono ?_
            rintro e w0x ⟨rfl, rfl⟩
            go_wp2_with fail
            refine (awake_any _).mono ?_
            rintro e w1 ⟨rfl, hb1⟩
            have B1 := Lib.hid (HK.out.2.2.below.trans (Below.mono hb1 (HK.out.2.2.below (B := W.heap.size)).size))
            clear hb1
            go_wp2
            go_ret
            exact ⟨rfl, B1.out⟩
        · have hkn : k = xs.length := by omega
          subst hkn
          have HW := HK.out.2.1
          rw [List.take_length] at HW
          have HVA := Lib.hid HW
          clear HW
          have hend := str_end xs gs (k := xs.length) rfl
          have hsz : (toB (wholeT xs gs)).size ≤ 1000000 := by rw [size_toB]; have := whole_len xs gs HSM.out.1; omega
          have HE := Lib.hid (And.intro hend hsz)
          clear hend hsz
          rcases ht with ⟨hnd, rfl⟩ | ⟨j, hj, hjk, hnd, hmem, rfl⟩
          · have z2 := size_gap gs 2
            have hP := whole_good xs gs HVA.out (by rw [List.take_length] at hnd; exact hnd)
            have HP := Lib.hid hP
            clear hP hnd
            go_wp2_with fail
            refine (HG.out 2 _ (by omega) HK.out.2.2.below).mono ?_
            rintro e w0x ⟨rfl, rfl⟩
            go_wp2_with fail
            refine (parse_any _ _ (by rw [HE.out.1]; exact HE.out.2)).mono ?_
            rw [HE.out.1, data_toB, HP.out]
            rintro e w1 ⟨xg, rfl, hrg, hbg⟩
            have B1 := Lib.hid (HK.out.2.2.below.trans (Below.mono hbg (HK.out.2.2.below (B := W.heap.size)).size))
            have R1 := Lib.hid (And.intro hrg (HR.out.keep B1.out))
            clear hrg hbg
            go_wp2_with fail
            refine (awake_any _).mono ?_
            rintro e w2 ⟨rfl, hb2⟩
            have B2 := Lib.hid (B1.out.trans (Below.mono hb2 B1.out.size))
            have R2 := Lib.hid (And.intro (R1.out.1.keep hb2) (R1.out.2.keep hb2))
            clear hb2
            go_wp2_with fail
            refine (of_any _ xs _ R2.out.2 (by omega)).mono ?_
            rintro e w3 ⟨xo, rfl, hro, hb3⟩
            have B3 := Lib.hid (B2.out.trans (Below.mono hb3 B2.out.size))
            have R3 := Lib.hid (And.intro (R2.out.1.keep hb3) (Reads.of_owns hro))
            clear hro hb3
            go_wp2_with fail
            refine (rsame_any xg xo (ofL xs) (ofL xs) _ R3.out.1 R3.out.2).mono ?_
            rintro e w4 ⟨rfl, hd4⟩
            have B4 := Lib.hid (B3.out.trans (Below.mono (hd4.below (B := W.heap.size)) (Nat.le_refl _)))
            clear hd4
            rw [decide_eq_true rfl]
            go_wp2
            go_ret
            exact ⟨rfl, B4.out⟩
          · have z2 := size_gap gs 2
            have hP := whole_dup xs gs HVA.out hj hnd hmem
            have HP := Lib.hid hP
            clear hP hnd hmem
            go_wp2_with fail
            refine (HG.out 2 _ (by omega) HK.out.2.2.below).mono ?_
            rintro e w0x ⟨rfl, rfl⟩
            go_wp2_with fail
            refine (parse_any _ _ (by rw [HE.out.1]; exact HE.out.2)).mono ?_
            rw [HE.out.1, data_toB, HP.out]
            rintro e w1 ⟨xg, rfl, hrg, hbg⟩
            have B1 := Lib.hid (HK.out.2.2.below.trans (Below.mono hbg (HK.out.2.2.below (B := W.heap.size)).size))
            have R1 := Lib.hid (And.intro hrg (HR.out.keep B1.out))
            clear hrg hbg
            have hpl : (0 : Int) ≤ (placeT xs gs j : Int) := by omega
            obtain ⟨ag, cg, rfl, hlg, hmg, _, _⟩ := R1.out.1
            go_wp2_with fail
            refine (awake_any _).mono ?_
            rintro e w2 ⟨rfl, hb2⟩
            have B2 := Lib.hid (B1.out.trans (Below.mono hb2 B1.out.size))
            clear hb2
            go_wp2
            go_ret
            exact ⟨rfl, B2.out⟩
    · have h3 : 100 < gs.length := by omega
      clear hr hs
      go_enter Try.func6, Try.ntmps6
      go_wp2_with fail
      refine S1.out.mono ?_
      rintro e w0x ⟨rfl, rfl⟩
      go_wp2_with fail
      refine (awake_any _).mono ?_
      rintro e w1 ⟨rfl, hb1⟩
      have B1 := Lib.hid hb1
      clear hb1
      go_wp2
      go_ret
      exact ⟨rfl, B1.out⟩
  · rw [decide_eq_false h1] at hsm1
    have S1 := Lib.hid hsm1
    clear hsm1 hr hs
    go_enter Try.func6, Try.ntmps6
    go_wp2_with fail
    refine S1.out.mono ?_
    rintro e w0x ⟨rfl, rfl⟩
    go_wp2_with fail
    refine (awake_any _).mono ?_
    rintro e w1 ⟨rfl, hb1⟩
    have B1 := Lib.hid hb1
    clear hb1
    go_wp2
    go_ret
    exact ⟨rfl, B1.out⟩

set_option maxRecDepth 100000 in
theorem lifted (os : Os) (started : os.Started) (H : Type) (enc : TypeId × Value → H) :
    ReturnsInHanded {} Try.checked os 6 .any (Rows.namesSpacedSpec.pre6 enc Try.prog Try.f6 Rows.namesSpacedRow.domain false) (Rows.namesSpacedSpec.post enc Try.prog Try.f6 false true false false) := by
  refine returnsInHanded_of_change (C := Try.checked) own started (by kernel_rfl) Try.func6
    (ChangeSpec.witness6 (enc := enc) (C := Try.checked) false ⟨#[], #[.slice none 0 0, .slice none 0 0], []⟩ 8 (by kernel_rfl) (by kernel_rfl) (by kernel_rfl) (by kernel_rfl)) ?_
  intro W base args ds gs before hval0 hW hcnd _
  have hval : ∀ (j : Nat) t v, Try.f6.params[j]? = some t → args[j]? = some v → Value.okWide Try.prog W .any base t v := hval0
  have hW' := hW
  obtain ⟨p, q, hA0, hV, rfl, hfz, hnd⟩ := hW
  have hA : DataW.TrodAll enc Try.prog W 0 (fun _ => true) true Try.f6.params.toList args.toList ds p := hA0
  rw [Try.params6] at hA hval
  obtain ⟨v0, vs0, d0, ds0, p0, q0, hargs, rfl, rfl, h0, r0⟩ := trodAll_cons hA
  obtain ⟨v1, vs1, d1, ds1, p1, q1, rfl, rfl, rfl, h1, r1⟩ := trodAll_cons r0
  obtain ⟨rfl, rfl, rfl⟩ := trodAll_nil r1
  obtain rfl : args = #[v0, v1] := by cases args; simp_all
  obtain ⟨rfl, rfl⟩ := trodVars_none hV
  obtain ⟨xs0, hr0, hl0⟩ := open_reads (hval 0 24 v0 rfl rfl) h0
  obtain ⟨xs1, hr1, hl1⟩ := open_bytes (hval 1 33 v1 rfl rfl) h1
  refine (walk v0 xs0 W hr0 hl0 v1 xs1 hr1 hl1).mono fun e W' ⟨he, hb⟩ => ?_
  subst he
  exact ⟨_, rfl, law_post laidOut rfl (fun _ _ => rfl) (by kernel_rfl) Try.underlying4 (by rw [Try.params6]; exact fun t ht => by simp at ht; rcases ht with  rfl | rfl ; all_goals exact ⟨by kernel_rfl, of_decide_eq_true (by kernel_rfl)⟩) hW' hb⟩

theorem over : Rows.namesSpacedRow.holds Try.pinned (OpenSpec.ofChange Rows.namesSpacedSpec) :=
  OpenClaim.holds_of_wide 6 Try.f6 rfl rfl rfl rfl rfl rfl rfl ⟨rfl, rfl, rfl, rfl, rfl⟩ rfl rfl rfl rfl rfl (by kernel_rfl) Try.func6 (by kernel_rfl)
    (of_decide_eq_true (by kernel_rfl)) (by unfold Func.isWrapper; first | (rw [if_pos (by decide +kernel)]; kernel_rfl) | (rw [if_neg (by decide +kernel)]; exact ⟨rfl, rfl⟩))
    (fun os started H enc _ => lifted os started H enc)

theorem proved : Rows.NamesSpacedSaid := over

end Go.Proofs.Ytgolodpihmdmoaa.namesSpaced
