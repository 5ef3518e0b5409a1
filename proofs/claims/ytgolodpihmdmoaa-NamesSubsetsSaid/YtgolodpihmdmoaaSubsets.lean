/-
  NamesSubsets: for every list the law returns true, and the list reads behind the call as before. No condition.
-/
import Derived.Test.YtgolodpihmdmoaaSi
import Derived.Test.YtgolodpihmdmoaaLp
import Derived.Lib.QuietBelow
namespace Go.Proofs.Ytgolodpihmdmoaa.namesSubsets
open Go.ChangeShapes Go.WideShapes Go.ChangeAt Go.RowKit Go.Sort
open Go.ChangeMaps (open_string shut_string)

def Refused (w : World) (e : Ending) (w' : World) : Prop := e = .returned (.tuple #[.slice none 0 0, .int .i64 6]) ∧ RowKit.Below w.heap.size w w'

theorem subsets_big (v : Value) (xs : List Str) (w : World) (hr : Reads vs w v xs) (hn : xs.length ≤ 1000000) (hs : 10 < (ofL xs).length) :
    Calls Try.prog 34 #[v] w (Refused w) := by
  go_enter Try.func34, Try.ntmps34
  go_wp2_with fail
  refine (of_any v xs _ hr (by omega)).mono ?_
  rintro e w1 ⟨v1, rfl, hown1, hb1⟩
  have hr1 := Reads.of_owns hown1
  generalize ofL xs = set at *
  obtain ⟨ao, cap, rfl, hl, hm, hno, hx⟩ := hr1
  unfold maxLen at hm
  have H1 := Lib.hid hb1
  clear hx hown1 hb1 hno hr
  have hd : decide ((10 : Int) < set.length) = true := decide_eq_true (by omega)
  go_wp2
  go_ret2
  exact ⟨rfl, H1.out⟩

def Fine (w : World) (e : Ending) (w' : World) : Prop := e = .returned (.bool true) ∧ RowKit.Below w.heap.size w w'

theorem pow_le {k n : Nat} (h : k ≤ n) (hn : n ≤ 10) : 2 ^ k ≤ 1024 := Nat.le_trans (Nat.pow_le_pow_right (n := 2) (by omega) (Nat.le_trans h hn)) (by decide)

set_option maxRecDepth 100000 in
set_option maxHeartbeats 4000000 in
theorem walk (v : Value) (xs : List Str) (W : World) (hr : Reads vs W v xs) (hs : ∀ x ∈ xs, x.length ≤ maxLen) :
    Calls Try.prog 11 #[v] W (Fine W) := by
  have hsm1 := small_any v xs W hr hs
  have HR := Lib.hid hr
  clear hr hs
  by_cases h1 : Small xs
  · rw [decide_eq_true h1] at hsm1
    have S1 := Lib.hid hsm1
    have hnx : xs.length ≤ 30 := h1.1
    clear h1 hsm1
    by_cases hn : (ofL xs).length ≤ 10
    · have HOL := Lib.hid (fun s => mem_ofL xs s)
      go_enter Try.func11, Try.ntmps11
      go_wp2_with fail
      refine S1.out.mono ?_
      rintro e w1 ⟨rfl, rfl⟩
      go_wp2_with fail
      refine (subsets_small v xs _ HR.out (by omega) hn).mono ?_
      rintro e w1 ⟨u, L, rfl, hrs, hgd, hb1⟩
      have R1 := Lib.hid (And.intro hrs (And.intro hgd hb1))
      clear hrs hgd hb1
      go_wp2_with fail
      refine (rof_any v xs _ (HR.out.keep R1.out.2.2) (by omega)).mono ?_
      rintro e w2 ⟨v2, rfl, ho2, hb2⟩
      obtain ⟨ao, cap, rfl, hl, hm, hno2, hx2⟩ := Reads.of_owns ho2
      have R2 := Lib.hid (And.intro (R1.out.1.keep hb2) (R1.out.2.2.trans (hb2.mono R1.out.2.2.size)))
      clear ho2 hb2 hno2 hx2
      generalize ofL xs = set at *
      obtain ⟨g, cp, rfl, hg1, hg2, hg3, hg4⟩ := R2.out.1
      have HC := Lib.hid hg4
      unfold maxLen at hg2
      clear hg4
      generalize hnn : set.length = n at *
      have HNN := Lib.hid hnn
      clear hnn
      have hN1 : 1 ≤ 2 ^ n := Nat.one_le_two_pow
      have hN2 : 2 ^ n ≤ 1024 := pow_le (Nat.le_refl _) hn
      generalize hN : 2 ^ n = N at *
      have HN := Lib.hid hN
      clear hN
      have hd : decide ((10 : Int) < n) = false := decide_eq_false (by omega)
      go_wp2
      go_loopg [6, 7] n (fun m c i wr => ∃ (k p : Nat), m + k = n ∧ i = .int .i64 k ∧ c = .int .i64 p ∧ p = 2 ^ k ∧ w2 = wr)
      case atStart => exact ⟨0, 1, by omega, rfl, rfl, rfl, rfl⟩
      case round =>
        obtain ⟨k, p, hmk, rfl, rfl, hp, rfl⟩ := hrel
        have HP := Lib.hid (And.intro hp hmk)
        have hk : k ≤ n := by omega
        have hp2 : p ≤ 1024 := by rw [hp]; exact pow_le hk hn
        clear hp hmk
        by_cases hlt : k < n
        · go_wp2
          go_roundg (n - (k + 1))
          case measure => have := HP.out.2; omega
          case rel => exact ⟨k + 1, 2 * p, by omega, by go_num, by go_num, by rw [HP.out.1, Nat.pow_succ]; omega, rfl⟩
        · have hkn : p = N := by
            have e : k = n := by omega
            rw [HP.out.1, e]; exact HN.out
          subst hkn
          have hbp : ((p : Int) != (p : Int)) = false := by rw [bne, beq_self_eq_true]; rfl
          have hbq : ((p : Int) == (p : Int)) = true := beq_self_eq_true _
          clear HP
          go_wp2
          clear hlt
          obtain ⟨w0, hw0⟩ : ∃ w0 : World, w0 = w2 := ⟨_, rfl⟩
          subst hw0
          go_loopg [8] p (fun m i wr => ∃ k : Nat, m + k = p ∧ i = .int .i64 k ∧ RowKit.Below w0.heap.size w0 wr)
          case atStart => exact ⟨0, by omega, rfl, RowKit.Below.refl _ _⟩
          case round =>
            obtain ⟨k, hmk, rfl, hb⟩ := hrel
            have HK := Lib.hid (And.intro hmk hb)
            have hk : k ≤ p := by omega
            clear hmk hb hbp hbq
            by_cases hlt : k < p
            · obtain ⟨uk, huk, hrk⟩ := HC.out k hlt
              have h1 : wr.cell? ⟨g, k, none⟩ = some uk := (HK.out.2.cell hg3).trans huk
              have hq : RowKit.Below W.heap.size W wr := R2.out.2.trans (HK.out.2.mono R2.out.2.size)
              obtain ⟨gs, gm, gl, gc⟩ := R1.out.2.1 k hlt
              rw [HNN.out] at gl
              have hcon1 : ∀ d os, Calls Try.prog 36 #[uk, v] (Sort.grow (redrawn wr d) os) fun e w' => e = .returned (.bool true) ∧ RowKit.Below (Sort.grow (redrawn wr d) os).heap.size (Sort.grow (redrawn wr d) os) w' := fun d os => by
                have h3 := below_regrown wr d os
                have := rsubset_any uk v (L k) xs (Sort.grow (redrawn wr d) os) ((hrk.keep HK.out.2).keep h3) ((HR.out.keep hq).keep h3) (by omega)
                rw [decide_eq_true (fun s hs => (HOL.out s).1 (gm s hs))] at this
                exact this
              have hcon2 : ∀ d os, Calls Try.prog 30 #[uk] (Sort.grow (redrawn wr d) os) fun e w' => e = .returned (.bool true) ∧ RowKit.Below (Sort.grow (redrawn wr d) os).heap.size (Sort.grow (redrawn wr d) os) w' := fun d os => by
                have h3 := below_regrown wr d os
                refine (rsorted_any uk (L k) (Sort.grow (redrawn wr d) os) ((hrk.keep HK.out.2).keep h3)).mono fun e w' ⟨he, hd⟩ => ⟨?_, hd.below⟩
                rw [he, show incB (L k) = true from decide_eq_true gs]
              have g1 := fun d os => cell_regrown h1 d os
              by_cases hk0 : k = 0
              · have z1 : decide (0 < k) = false := decide_eq_false (by omega)
                have z2 : decide ((0 : Int) < (k : Int)) = false := decide_eq_false (by omega)
                have HCC := Lib.hid (And.intro hcon1 hcon2)
                clear hk0 huk hrk h1 hq hcon1 hcon2 gs gm gl gc
                go_wp2
                refine wp_region_quiet_below (by kernel_rfl) (by kernel_rfl) ?_
                repeat (go_big_quiet_step ((first | (go_at_call 36; exact Calls.regrown_of (HCC.out.1 _ _)) | (go_at_call 30; exact Calls.regrown_of (HCC.out.2 _ _)))))
                refine wpQuiet_nil ?_
                intro _ hw'
                obtain ⟨⟨dq, osq⟩, hw''⟩ := hw'
                subst hw''
                clear g1
                go_wp2
                go_roundg (p - (k + 1))
                case measure => have := HK.out.1; omega
                case rel => exact ⟨k + 1, by omega, by go_num, HK.out.2.trans ((below_regrown wr dq osq).mono HK.out.2.size)⟩
              · obtain ⟨q, rfl⟩ : ∃ q, k = q + 1 := ⟨k - 1, by omega⟩
                obtain ⟨uq, huq, hrq⟩ := HC.out q (by omega)
                have h2 : wr.cell? ⟨g, q, none⟩ = some uq := (HK.out.2.cell hg3).trans huq
                obtain ⟨gs', gm', gl', gc'⟩ := R1.out.2.1 q (by omega)
                rw [HNN.out] at gl'
                have hcon3 : ∀ d os, Calls Try.prog 33 #[uq, uk] (Sort.grow (redrawn wr d) os) fun e w' => e = .returned (.int .i64 (-1)) ∧ RowKit.Below (Sort.grow (redrawn wr d) os).heap.size (Sort.grow (redrawn wr d) os) w' := fun d os => by
                  have h3 := below_regrown wr d os
                  have := rcompare_any uq uk (L q) (L (q + 1)) (Sort.grow (redrawn wr d) os) ((hrq.keep HK.out.2).keep h3) ((hrk.keep HK.out.2).keep h3) (by omega) (by omega)
                  rw [ofL_self gs', ofL_self gs, gc' (by omega)] at this
                  exact this
                have g2 := fun d os => cell_regrown h2 d os
                have HCC := Lib.hid (And.intro hcon1 (And.intro hcon2 hcon3))
                have z1 : (1 : Int) ≤ ((q + 1 : Nat) : Int) := by omega
                have z2 : (0 : Int) < ((q + 1 : Nat) : Int) := by omega
                have z3 : ((q + 1 : Nat) : Int) < p := by omega
                have z4 : (q : Int) < p := by omega
                clear hk0 huk hrk h1 hq hcon1 hcon2 gs gm gl gc huq hrq h2 gs' gm' gl' gc' hcon3
                go_wp2
                have e1 : IntKind.i64.wrap ((q : Int) + 1 - 1) = (q : Int) := by rw [show (q : Int) + 1 - 1 = q by omega]; exact IntWalk.i64_in _ (by omega)
                have e2 : ((q : Int) + 1).toNat = q + 1 := by omega
                refine wp_region_quiet_below (by kernel_rfl) (by kernel_rfl) ?_
                repeat (go_big_quiet_step ((first | (go_at_call 36; exact Calls.regrown_of (HCC.out.1 _ _)) | (go_at_call 30; exact Calls.regrown_of (HCC.out.2.1 _ _)) | (go_at_call 33; exact Calls.regrown_of (HCC.out.2.2 _ _)))))
                refine wpQuiet_nil ?_
                intro _ hw'
                obtain ⟨⟨dq, osq⟩, hw''⟩ := hw'
                subst hw''
                clear g1 g2 e1 e2
                go_wp2
                go_roundg (p - (q + 1 + 1))
                case measure => have := HK.out.1; omega
                case rel => exact ⟨q + 1 + 1, by omega, by go_num, HK.out.2.trans ((below_regrown wr dq osq).mono HK.out.2.size)⟩
            · have hq : RowKit.Below W.heap.size W wr := R2.out.2.trans (HK.out.2.mono R2.out.2.size)
              have HQ := Lib.hid hq
              clear hq
              go_wp2_with fail
              refine (awake_any _).mono ?_
              rintro e w3 ⟨rfl, hb3⟩
              have H3 := Lib.hid (HQ.out.trans (hb3.mono HQ.out.size))
              clear hb3
              go_wp2
              go_ret
              exact ⟨rfl, H3.out⟩
    · go_enter Try.func11, Try.ntmps11
      go_wp2_with fail
      refine S1.out.mono ?_
      rintro e w1 ⟨rfl, rfl⟩
      go_wp2_with fail
      refine (subsets_big v xs _ HR.out (by omega) (by omega)).mono ?_
      rintro e w1 ⟨rfl, hb1⟩
      have R1 := Lib.hid hb1
      clear hb1
      go_wp2_with fail
      refine (rof_any v xs _ (HR.out.keep R1.out) (by omega)).mono ?_
      rintro e w2 ⟨v2, rfl, ho2, hb2⟩
      obtain ⟨ao, cap, rfl, hl, hm, hno2, hx2⟩ := Reads.of_owns ho2
      have R2 := Lib.hid (R1.out.trans (hb2.mono R1.out.size))
      clear ho2 hb2 hno2 hx2
      generalize ofL xs = set at *
      have hd : decide ((10 : Int) < set.length) = true := decide_eq_true (by omega)
      go_wp2_with fail
      refine (awake_any _).mono ?_
      rintro e w3 ⟨rfl, hb3⟩
      have H3 := Lib.hid (R2.out.trans (hb3.mono R2.out.size))
      clear hb3
      go_wp2
      go_ret
      exact ⟨rfl, H3.out⟩
  · rw [decide_eq_false h1] at hsm1
    have S1 := Lib.hid hsm1
    clear h1 hsm1
    go_enter Try.func11, Try.ntmps11
    go_wp2_with fail
    refine S1.out.mono ?_
    rintro e w1 ⟨rfl, rfl⟩
    go_wp2_with fail
    refine (awake_any _).mono ?_
    rintro e w3 ⟨rfl, hb3⟩
    have H3 := Lib.hid hb3
    clear hb3
    go_wp2
    go_ret
    exact ⟨rfl, H3.out⟩

set_option maxRecDepth 100000 in
theorem lifted (os : Os) (started : os.Started) (H : Type) (enc : TypeId × Value → H) :
    ReturnsInHanded {} Try.checked os 11 .any (Rows.namesSubsetsSpec.pre6 enc Try.prog Try.f11 Rows.namesSubsetsRow.domain false) (Rows.namesSubsetsSpec.post enc Try.prog Try.f11 false true false false) := by
  refine returnsInHanded_of_change (C := Try.checked) own started (by kernel_rfl) Try.func11
    (ChangeSpec.witness6 (enc := enc) (C := Try.checked) false ⟨#[], #[.slice none 0 0], []⟩ 8 (by kernel_rfl) (by kernel_rfl) (by kernel_rfl) (by kernel_rfl)) ?_
  intro W base args ds gs before hval0 hW hcnd _
  have hval : ∀ (j : Nat) t v, Try.f11.params[j]? = some t → args[j]? = some v → Value.okWide Try.prog W .any base t v := hval0
  have hW' := hW
  obtain ⟨p, q, hA0, hV, rfl, hfz, hnd⟩ := hW
  have hA : DataW.TrodAll enc Try.prog W 0 (fun _ => true) true Try.f11.params.toList args.toList ds p := hA0
  rw [Try.params11] at hA hval
  obtain ⟨v0, vs0, d0, ds0, p0, q0, hargs, rfl, rfl, h0, r0⟩ := trodAll_cons hA
  obtain ⟨rfl, rfl, rfl⟩ := trodAll_nil r0
  obtain rfl : args = #[v0] := by cases args; simp_all
  obtain ⟨rfl, rfl⟩ := trodVars_none hV
  obtain ⟨xs0, hr0, hl0⟩ := open_reads (hval 0 24 v0 rfl rfl) h0
  refine (walk v0 xs0 W hr0 hl0).mono fun e W' ⟨he, hb⟩ => ?_
  subst he
  exact ⟨_, rfl, law_post laidOut rfl (fun _ _ => rfl) (by kernel_rfl) Try.underlying4 (by rw [Try.params11]; exact fun t ht => by simp at ht; rcases ht with  rfl ; all_goals exact ⟨by kernel_rfl, of_decide_eq_true (by kernel_rfl)⟩) hW' hb⟩

theorem over : Rows.namesSubsetsRow.holds Try.pinned (OpenSpec.ofChange Rows.namesSubsetsSpec) :=
  OpenClaim.holds_of_wide 11 Try.f11 rfl rfl rfl rfl rfl rfl rfl ⟨rfl, rfl, rfl, rfl, rfl⟩ rfl rfl rfl rfl rfl (by kernel_rfl) Try.func11 (by kernel_rfl)
    (of_decide_eq_true (by kernel_rfl)) (by unfold Func.isWrapper; first | (rw [if_pos (by decide +kernel)]; kernel_rfl) | (rw [if_neg (by decide +kernel)]; exact ⟨rfl, rfl⟩))
    (fun os started H enc _ => lifted os started H enc)

theorem proved : Rows.NamesSubsetsSaid := over
end Go.Proofs.Ytgolodpihmdmoaa.namesSubsets
