/-
  Chapter 02: Compare of sets, of the program and of the reference.
-/
import Derived.Test.YtgolodpihmdmoaaNm
namespace Go.Proofs.Ytgolodpihmdmoaa
open Go.RowKit Go.Sort

def cmpS (a b : Str) : Int := if a < b then -1 else if b < a then 1 else 0
def cmpN (a b : Nat) : Int := if a < b then -1 else if b < a then 1 else 0
def lexL : List Str → List Str → Int
  | [], [] => 0
  | [], _ :: _ => -1
  | _ :: _, [] => 1
  | x :: xs, y :: ys => if x < y then -1 else if y < x then 1 else lexL xs ys
def cmpL (xs ys : List Str) : Int := if cmpN xs.length ys.length ≠ 0 then cmpN xs.length ys.length else lexL xs ys

theorem nanS_any (a : Str) (w : World) : Calls Try.prog 93 #[vs a] w fun e w' => e = .returned (.bool false) ∧ w = w' := by
  have hT : ((toB a).toList == (toB a).toList) = true := beq_self_eq_true _
  have hF : ((toB a).toList != (toB a).toList) = false := by rw [bne, hT]; rfl
  unfold vs
  go_enter Try.func93, Try.ntmps93
  go_wp2
  go_ret
  exact ⟨rfl, rfl⟩

theorem cmpS_any (a b : Str) (w : World) : Calls Try.prog 77 #[vs a, vs b] w fun e w' => e = .returned (.int .i64 (cmpS a b)) ∧ w = w' := by
  have n1 := nanS_any a
  have n2 := nanS_any b
  have HN := Lib.hid (And.intro n1 n2)
  clear n1 n2
  by_cases h1 : a < b
  · have e : cmpS a b = -1 := by unfold cmpS; rw [if_pos h1]
    have hB : Op.bytesLess (toB a).toList (toB b).toList = true := by rw [less_toB]; exact decide_eq_true h1
    have HE := Lib.hid e
    clear e h1
    unfold vs
    go_enter Try.func77, Try.ntmps77
    go_wp2_with fail
    refine (HN.out.1 _).mono ?_
    rintro e w1 ⟨rfl, rfl⟩
    go_wp2_with fail
    refine (HN.out.2 _).mono ?_
    rintro e w1 ⟨rfl, rfl⟩
    go_wp2
    go_ret
    rw [HE.out]
    exact ⟨rfl, rfl⟩
  · have hB : Op.bytesLess (toB a).toList (toB b).toList = false := by rw [less_toB]; exact decide_eq_false h1
    by_cases h2 : b < a
    · have e : cmpS a b = 1 := by unfold cmpS; rw [if_neg h1, if_pos h2]
      have hE : ((toB a).toList == (toB b).toList) = false := by rw [beq_toB]; exact decide_eq_false (fun e => slt_irrefl b (e ▸ h2))
      have HE := Lib.hid e
      clear e h1 h2
      unfold vs
      go_enter Try.func77, Try.ntmps77
      go_wp2_with fail
      refine (HN.out.1 _).mono ?_
      rintro e w1 ⟨rfl, rfl⟩
      go_wp2_with fail
      refine (HN.out.2 _).mono ?_
      rintro e w1 ⟨rfl, rfl⟩
      go_wp2
      go_ret
      rw [HE.out]
      exact ⟨rfl, rfl⟩
    · have e : cmpS a b = 0 := by unfold cmpS; rw [if_neg h1, if_neg h2]
      have hab : a = b := (slt_tri a b).elim (fun h => absurd h h1) (fun h => h.elim id (fun h => absurd h h2))
      have hE : ((toB a).toList == (toB b).toList) = true := by rw [beq_toB]; exact decide_eq_true hab
      have HE := Lib.hid e
      clear e h1 h2 hab
      unfold vs
      go_enter Try.func77, Try.ntmps77
      go_wp2_with fail
      refine (HN.out.1 _).mono ?_
      rintro e w1 ⟨rfl, rfl⟩
      go_wp2_with fail
      refine (HN.out.2 _).mono ?_
      rintro e w1 ⟨rfl, rfl⟩
      go_wp2
      go_ret
      rw [HE.out]
      exact ⟨rfl, rfl⟩

theorem cmpI_any (a b : Nat) (w : World) : Calls Try.prog 60 #[.int .i64 (a : Int), .int .i64 (b : Int)] w fun e w' => e = .returned (.int .i64 (cmpN a b)) ∧ w = w' := by
  have hT : ((a : Int) == (a : Int)) = true := beq_self_eq_true _
  have hF : ((a : Int) != (a : Int)) = false := by rw [bne, hT]; rfl
  have hT2 : ((b : Int) == (b : Int)) = true := beq_self_eq_true _
  have hF2 : ((b : Int) != (b : Int)) = false := by rw [bne, hT2]; rfl
  by_cases h1 : a < b
  · have e : cmpN a b = -1 := by unfold cmpN; rw [if_pos h1]
    have HE := Lib.hid e
    clear e
    go_enter Try.func60, Try.ntmps60
    go_wp2
    go_ret
    rw [HE.out]
    exact ⟨rfl, rfl⟩
  · by_cases h2 : b < a
    · have e : cmpN a b = 1 := by unfold cmpN; rw [if_neg h1, if_pos h2]
      have HE := Lib.hid e
      clear e
      go_enter Try.func60, Try.ntmps60
      go_wp2
      go_ret
      rw [HE.out]
      exact ⟨rfl, rfl⟩
    · have e : cmpN a b = 0 := by unfold cmpN; rw [if_neg h1, if_neg h2]
      have HE := Lib.hid e
      clear e
      go_enter Try.func60, Try.ntmps60
      go_wp2
      go_ret
      rw [HE.out]
      exact ⟨rfl, rfl⟩

theorem lex_step {xs ys : List Str} {k : Nat} (h1 : k < xs.length) (h2 : k < ys.length) : lexL (xs.drop k) (ys.drop k) = if cmpS xs[k] ys[k] ≠ 0 then cmpS xs[k] ys[k] else lexL (xs.drop (k + 1)) (ys.drop (k + 1)) := by
  rw [List.drop_eq_getElem_cons h1, List.drop_eq_getElem_cons h2, lexL]
  unfold cmpS
  by_cases a : xs[k] < ys[k]
  · simp [a]
  · by_cases b : ys[k] < xs[k]
    · simp [a, b]
    · simp [a, b]

set_option maxHeartbeats 1000000 in
theorem lexcmp_any (v u : Value) (xs ys : List Str) (w : World) (hr : Reads vs w v xs) (hs : Reads vs w u ys) :
    Calls Try.prog 61 #[v, u] w fun e w' => e = .returned (.int .i64 (lexL xs ys)) ∧ w = w' := by
  obtain ⟨ao, cap, rfl, hl, hm, hn, hx⟩ := hr
  obtain ⟨ao', cap', rfl, hl', hm', hn', hx'⟩ := hs
  unfold maxLen at hm hm'
  go_enter Try.func61, Try.ntmps61
  go_wp2
  go_loop [11] (fun i => ∃ k : Nat, k ≤ xs.length ∧ k ≤ ys.length ∧ i = .int .i64 k ∧ lexL (xs.drop k) (ys.drop k) = lexL xs ys) (fun i => xs.length - (intOf i).toNat)
  case atStart => exact ⟨0, by omega, by omega, rfl, rfl⟩
  case round =>
    obtain ⟨k, hk, hk', rfl, hp⟩ := hrel
    have HP := Lib.hid hp
    clear hp
    by_cases hlt : k < xs.length
    · obtain ⟨b, off, rfl, hb, hc⟩ := hx (by intro e; subst e; simp at hlt)
      have h1 : w.cell? ⟨b, off + k, none⟩ = some (.string (toB xs[k])) := hc k hlt
      clear hc hx hn
      by_cases hlt' : k < ys.length
      · obtain ⟨b', off', rfl, hb', hc'⟩ := hx' (by intro e; subst e; simp at hlt')
        have h2 : w.cell? ⟨b', off' + k, none⟩ = some (.string (toB ys[k])) := hc' k hlt'
        have hcm := cmpS_any xs[k] ys[k] w
        have hst := lex_step hlt hlt'
        clear hc' hx' hn'
        by_cases hz : cmpS xs[k] ys[k] = 0
        · rw [if_neg (by simp [hz])] at hst
          rw [hz] at hcm
          have HC := Lib.hid hcm
          have HS := Lib.hid hst
          clear hcm hst hz
          go_wp2_with fail
          refine HC.out.mono ?_
          rintro e w1 ⟨rfl, rfl⟩
          go_wp2
          go_round
          case rel => exact ⟨k + 1, by omega, by omega, by go_num, by rw [← HS.out]; exact HP.out⟩
          case measure => simp [intOf]; omega
        · rw [if_pos hz] at hst
          have hne : (cmpS xs[k] ys[k] == 0) = false := by simpa using hz
          have hne2 : (cmpS xs[k] ys[k] != 0) = true := by simpa using hz
          generalize cmpS xs[k] ys[k] = c at *
          have HC := Lib.hid hcm
          have HS := Lib.hid hst
          clear hcm hst hz
          go_wp2_with fail
          refine HC.out.mono ?_
          rintro e w1 ⟨rfl, rfl⟩
          go_wp2
          go_ret
          rw [← HP.out, HS.out]
          exact ⟨rfl, rfl⟩
      · have hR : lexL (xs.drop k) (ys.drop k) = 1 := by
          rw [@List.drop_eq_nil_of_le _ ys k (by omega), List.drop_eq_getElem_cons hlt]; rfl
        have HR := Lib.hid hR
        clear hR
        go_wp2
        go_ret
        rw [← HP.out, HR.out]
        exact ⟨rfl, rfl⟩
    · by_cases hlt' : k < ys.length
      · have hR : lexL (xs.drop k) (ys.drop k) = -1 := by
          rw [@List.drop_eq_nil_of_le _ xs k (by omega), List.drop_eq_getElem_cons hlt']; rfl
        have hll : (xs.length : Int) < ys.length := by omega
        have HR := Lib.hid hR
        clear hR
        go_wp2
        go_ret
        rw [← HP.out, HR.out]
        exact ⟨rfl, rfl⟩
      · have hR : lexL (xs.drop k) (ys.drop k) = 0 := by
          rw [List.drop_eq_nil_of_le (by omega), List.drop_eq_nil_of_le (by omega)]; rfl
        have hll : ¬ (xs.length : Int) < ys.length := by omega
        have HR := Lib.hid hR
        clear hR
        go_wp2
        go_ret
        rw [← HP.out, HR.out]
        exact ⟨rfl, rfl⟩

theorem cmpset_any (v u : Value) (xs ys : List Str) (w : World) (hr : Reads vs w v xs) (hs : Reads vs w u ys) :
    Calls Try.prog 50 #[v, u] w fun e w' => e = .returned (.int .i64 (cmpL xs ys)) ∧ w = w' := by
  have hl := lexcmp_any v u xs ys w hr hs
  obtain ⟨ao, cap, rfl, h1, hm, hn, hx⟩ := hr
  obtain ⟨ao', cap', rfl, h1', hm', hn', hx'⟩ := hs
  have hc := cmpI_any xs.length ys.length w
  unfold cmpL
  clear hx hx' hn hn'
  by_cases hz : cmpN xs.length ys.length = 0
  · rw [if_neg (by simp [hz])]
    rw [hz] at hc
    have HC := Lib.hid (And.intro hc hl)
    clear hc hl hz
    go_enter Try.func50, Try.ntmps50
    go_wp2_with fail
    refine HC.out.1.mono ?_
    rintro e w1 ⟨rfl, rfl⟩
    go_wp2_with fail
    refine HC.out.2.mono ?_
    rintro e w1 ⟨rfl, rfl⟩
    go_wp2
    go_ret
    exact ⟨rfl, rfl⟩
  · rw [if_pos hz]
    have hne : (cmpN xs.length ys.length == 0) = false := by simpa using hz
    have hne2 : (cmpN xs.length ys.length != 0) = true := by simpa using hz
    have HC := Lib.hid hc
    generalize cmpN xs.length ys.length = c at *
    clear hc hl hz
    go_enter Try.func50, Try.ntmps50
    go_wp2_with fail
    refine HC.out.mono ?_
    rintro e w1 ⟨rfl, rfl⟩
    go_wp2
    go_ret
    exact ⟨rfl, rfl⟩

def CmpMade (w : World) (c : Int) (e : Ending) (w' : World) : Prop := e = .returned (.int .i64 c) ∧ Below w.heap.size w w'

theorem compare_any (v u : Value) (xs ys : List Str) (w : World) (hr : Reads vs w v xs) (hs : Reads vs w u ys) (hn : xs.length ≤ 1000000) (hm : ys.length ≤ 1000000) :
    Calls Try.prog 32 #[v, u] w (CmpMade w (cmpL (ofL xs) (ofL ys))) := by
  have HR := Lib.hid (And.intro hr hs)
  clear hr hs
  go_enter Try.func32, Try.ntmps32
  go_wp2_with fail
  refine (of_any v xs _ HR.out.1 (by omega)).mono ?_
  rintro e w1 ⟨v1, rfl, hown1, hb1⟩
  have H1 := Lib.hid (And.intro hown1 hb1)
  clear hown1 hb1
  go_wp2_with fail
  refine (of_any u ys _ (HR.out.2.keep H1.out.2) (by omega)).mono ?_
  rintro e w2 ⟨v2, rfl, hown2, hb2⟩
  have H2 := Lib.hid (And.intro hown2 (And.intro hb2 ((Reads.of_owns H1.out.1).keep hb2)))
  clear hown2 hb2
  go_wp2_with fail
  refine (cmpset_any v1 v2 (ofL xs) (ofL ys) _ H2.out.2.2 (Reads.of_owns H2.out.1)).mono ?_
  rintro e w3 ⟨rfl, rfl⟩
  generalize cmpL (ofL xs) (ofL ys) = c at *
  go_wp2
  go_ret
  exact ⟨rfl, H1.out.2.trans (H2.out.2.1.mono H1.out.2.size)⟩

set_option maxHeartbeats 1000000 in
theorem rcompare_any (v u : Value) (xs ys : List Str) (w : World) (hr : Reads vs w v xs) (hs : Reads vs w u ys) (hn : xs.length ≤ 1000000) (hm : ys.length ≤ 1000000) :
    Calls Try.prog 33 #[v, u] w (CmpMade w (cmpL (ofL xs) (ofL ys))) := by
  have HR := Lib.hid (And.intro hr hs)
  clear hr hs
  go_enter Try.func33, Try.ntmps33
  go_wp2_with fail
  refine (rof_any v xs _ HR.out.1 hn).mono ?_
  rintro e w1 ⟨v1, rfl, hown1, hb1⟩
  have H1 := Lib.hid (And.intro hown1 hb1)
  clear hown1 hb1
  go_wp2_with fail
  refine (rof_any u ys _ (HR.out.2.keep H1.out.2) hm).mono ?_
  rintro e w2 ⟨v2, rfl, hown2, hb2⟩
  have hr1 := (Reads.of_owns H1.out.1).keep hb2
  have hr2 := Reads.of_owns hown2
  have hB := H1.out.2.trans (hb2.mono H1.out.2.size)
  have HB := Lib.hid hB
  clear hown2 hb2 hB H1 HR
  generalize ofL xs = X at *
  generalize ofL ys = Y at *
  obtain ⟨ao, cap, rfl, hl, hmx, hno, hx⟩ := hr1
  obtain ⟨ao', cap', rfl, hl', hmx', hno', hx'⟩ := hr2
  unfold maxLen at hmx hmx'
  by_cases h1 : X.length < Y.length
  · have hE : ((X.length : Int) != (Y.length : Int)) = true := by rw [bne_iff_ne]; omega
    have hE2 : ((X.length : Int) == (Y.length : Int)) = false := beq_eq_false_iff_ne.2 (by omega)
    have hR : cmpL X Y = -1 := by unfold cmpL cmpN; rw [if_pos h1]; rfl
    have HRR := Lib.hid hR
    clear hR
    go_wp2
    go_ret
    exact ⟨by rw [HRR.out]; rfl, HB.out⟩
  · by_cases h2 : Y.length < X.length
    · have hE : ((X.length : Int) != (Y.length : Int)) = true := by rw [bne_iff_ne]; omega
      have hE2 : ((X.length : Int) == (Y.length : Int)) = false := beq_eq_false_iff_ne.2 (by omega)
      have hR : cmpL X Y = 1 := by unfold cmpL cmpN; rw [if_neg h1, if_pos h2]; rfl
      have HRR := Lib.hid hR
      clear hR
      go_wp2
      go_ret
      exact ⟨by rw [HRR.out]; rfl, HB.out⟩
    · have hE : ((X.length : Int) != (Y.length : Int)) = false := by
        have : (X.length : Int) = Y.length := by omega
        rw [this, bne_self_eq_false]
      have hE2 : ((X.length : Int) == (Y.length : Int)) = true := beq_iff_eq.2 (by omega)
      have hR : cmpL X Y = lexL X Y := by unfold cmpL cmpN; rw [if_neg h1, if_neg h2]; rfl
      have HRR := Lib.hid hR
      have hXY : X.length = Y.length := by omega
      have HXY := Lib.hid hXY
      clear hR hXY
      go_wp2
      go_loopg [7] X.length (fun m i wr => ∃ k : Nat, m + k = X.length ∧ i = .int .i64 k ∧ lexL (X.drop k) (Y.drop k) = lexL X Y ∧ Drew w2 wr)
      case atStart => exact ⟨0, by omega, rfl, rfl, Drew.refl _⟩
      case round =>
        obtain ⟨k, hmk, rfl, hp, hw⟩ := hrel
        have HP := Lib.hid (And.intro hp hmk)
        have hk : k ≤ X.length := by omega
        clear hp hmk
        by_cases hlt : k < X.length
        · have hlt' : k < Y.length := by rw [← HXY.out]; exact hlt
          obtain ⟨b, off, rfl, hb, hc⟩ := hx (by intro e; subst e; simp at hlt)
          obtain ⟨b', off', rfl, hb', hc'⟩ := hx' (by intro e; subst e; simp at hlt')
          have h1 : wr.cell? ⟨b, off + k, none⟩ = some (.string (toB X[k])) := (hw.cell _).trans (hc k hlt)
          have h2 : wr.cell? ⟨b', off' + k, none⟩ = some (.string (toB Y[k])) := (hw.cell _).trans (hc' k hlt')
          have hst := lex_step hlt hlt'
          unfold cmpS at hst
          clear hc hx hno hc' hx' hno'
          by_cases a1 : X[k] < Y[k]
          · have hB : Op.bytesLess (toB X[k]).toList (toB Y[k]).toList = true := by rw [less_toB]; exact decide_eq_true a1
            rw [if_pos a1] at hst
            have HS := Lib.hid hst
            clear a1 hst
            go_wp2
            go_quiet (fail)
            go_wp2
            go_ret
            exact ⟨by rw [HRR.out, ← HP.out.1, HS.out]; rfl, HB.out.trans (hw.step _).below⟩
          · have hB : Op.bytesLess (toB X[k]).toList (toB Y[k]).toList = false := by rw [less_toB]; exact decide_eq_false a1
            rw [if_neg a1] at hst
            by_cases a2 : Y[k] < X[k]
            · have hB2 : ((toB X[k]).toList == (toB Y[k]).toList) = false := by rw [beq_toB]; exact decide_eq_false (fun e => slt_irrefl _ (e ▸ a2))
              rw [if_pos a2] at hst
              have HS := Lib.hid hst
              clear a1 a2 hst
              go_wp2
              go_quiet (fail)
              go_wp2
              go_quiet (fail)
              go_wp2
              go_ret
              exact ⟨by rw [HRR.out, ← HP.out.1, HS.out]; rfl, HB.out.trans ((hw.step _).step _).below⟩
            · have hB2 : ((toB X[k]).toList == (toB Y[k]).toList) = true := by rw [beq_toB]; exact decide_eq_true ((slt_tri _ _).elim (fun h => absurd h a1) (fun h => h.elim id (fun h => absurd h a2)))
              rw [if_neg a2] at hst
              have HS := Lib.hid hst
              clear a1 a2 hst
              go_wp2
              go_quiet (fail)
              go_wp2
              go_quiet (fail)
              go_wp2
              go_roundg (X.length - (k + 1))
              case measure => have := HP.out.2; omega
              case rel => exact ⟨k + 1, by omega, by go_num, by have := HS.out; simp only [ne_eq, not_true_eq_false, if_false] at this; rw [← this]; exact HP.out.1, hw.step _⟩
        · have hR : lexL (X.drop k) (Y.drop k) = 0 := by
            rw [List.drop_eq_nil_of_le (by omega), List.drop_eq_nil_of_le (by rw [← HXY.out]; omega)]; rfl
          have HR2 := Lib.hid hR
          clear hR
          go_wp2
          go_ret
          exact ⟨by rw [HRR.out, ← HP.out.1, HR2.out]; rfl, HB.out.trans hw.below⟩
end Go.Proofs.Ytgolodpihmdmoaa
