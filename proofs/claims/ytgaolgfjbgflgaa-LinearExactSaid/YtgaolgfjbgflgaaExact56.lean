/-
  LinearExact: for all histories and budgets the law returns true, and what came in reads behind the call as before. No condition.
-/
import Derived.Test.YtgaolgfjbgflgaaLt
import Derived.Test.YtgaolgfjbgflgaaLu
import Derived.Test.YtgaolgfjbgflgaaJc
import Derived.Test.YtgaolgfjbgflgaaHq
import Derived.Deep.DeepCutAuto
namespace Go.Proofs.Ytgaolgfjbgflgaa.linearExact
open Go.ChangeShapes Go.WideShapes Go.ChangeAt Go.RowKit

theorem C_seven {h : List Opn} (hn : h.length ≤ 7) : C h 0 ≤ 1000000 := by
  have h1 := cnt_le h (h.length + 1) 0
  have h2 := seqN_mono (Nat.le_trans (freeK_le 0 h.length) hn)
  have h3 : seqN 7 ≤ 1000000 := by decide
  unfold C
  omega
theorem first_cell {w0 w : World} {v : Value} {l : List Nat} {LL : List (List Nat)} (h : OwnL w0 w v (l :: LL)) : ∃ g cap u, v = .slice (some ⟨g, 0, none⟩) (LL.length + 1) cap ∧ g < w.heap.size ∧ w.cell? ⟨g, 0, none⟩ = some u ∧ RowI w u l := by
  obtain ⟨-, cells, h2, h3⟩ := h
  obtain ⟨u, h4, h5⟩ := h3 0 (by simp)
  rcases h2.2 with ⟨_, h0⟩ | ⟨g, cap, cur, rfl, _, hg, _, _, hs, ht⟩
  · simp at h0
  · have hB : Blk w g 25 cur := hg
    refine ⟨g, cap, u, rfl, hB.lt, (hB.cell 0).trans ?_, h5⟩
    rw [← ht, List.getElem?_take_of_lt (by simp), Array.getElem?_toList] at h4
    exact h4
theorem res_bad {h : List Opn} {bud : Int} {L : List Int} {b : Bool} {c : Int} (hr : LRes h bud L b c) (hb : ¬ (chkL h).2 = 0 ∨ bud < 1) : L = [] ∧ b = false ∧ c = 1 := by
  rcases hr with ⟨_, h1⟩ | ⟨⟨h1, h2⟩, _⟩
  · exact h1
  · omega
theorem res_good {h : List Opn} {bud : Int} {L : List Int} {b : Bool} {c : Int} (hr : LRes h bud L b c) (h1 : (chkL h).2 = 0) (h2 : ¬ bud < 1) :
    (bud ≤ ((h.length * 2 ^ h.length : Nat) : Int) ∧ L = [] ∧ b = false ∧ c = 7) ∨ (G h 0 = false ∧ L = [] ∧ b = false ∧ c = 0) ∨ (G h 0 = true ∧ L = intsN (pathG h 0) ∧ b = true ∧ c = 0) := by
  rcases hr with ⟨h3, _⟩ | ⟨_, h3⟩
  · omega
  · exact h3
theorem bud_lt {n : Nat} {bud : Int} (h : bud ≤ ((n * 2 ^ n : Nat) : Int)) : bud < (((n + 1) * 2 ^ n : Nat) : Int) := by
  have h1 := Nat.two_pow_pos n
  have h2 : (n + 1) * 2 ^ n = n * 2 ^ n + 2 ^ n := Nat.succ_mul _ _
  omega
theorem pow_step {n k : Nat} (hn : n ≤ 7) (hk : k < n) : (n + 1) * 2 ^ k * 2 = (n + 1) * 2 ^ (k + 1) ∧ (n + 1) * 2 ^ (k + 1) ≤ 1024 := by
  refine ⟨by rw [Nat.pow_succ, Nat.mul_assoc], Nat.le_trans (Nat.mul_le_mul (show n + 1 ≤ 8 by omega) (Nat.pow_le_pow_right (by decide) (show k + 1 ≤ 7 by omega))) (by decide)⟩

set_option maxRecDepth 100000 in
set_option maxHeartbeats 8000000 in
theorem walk (v : Value) (h : List Opn) (bud : Int) (W : World) (hr : ReadsO W v h) : Calls Try.prog 3 #[v, .int .i64 bud] W (BoolMade W true) := by
  have HR := Lib.hid hr
  obtain ⟨ao, cap, rfl, hl, hm, -, -⟩ := hr
  unfold maxLen at hm
  go_enter Try.func3, Try.ntmps3
  have KW := Lib.hid (Below.refl W.heap.size W)
  go_wp2_with fail
  refine (awake_any _).mono ?_
  rintro e w1 ⟨rfl, hb⟩
  replace HR := Lib.hid (HR.out.on hb)
  replace KW := Lib.hid (KW.out.trans (hb.mono KW.out.size))
  clear hb
  go_wp2_with fail
  refine (small_any _ h 7 w1 HR.out (by decide)).mono ?_
  rintro e ws ⟨r, rfl, rfl, hsm⟩
  cases r with
  | false =>
    go_wp2
    go_ret
    exact ⟨rfl, KW.out⟩
  | true =>
    have HS := Lib.hid (hsm rfl).2
    have hn7 : h.length ≤ 7 := by have := (hsm rfl).1; omega
    clear hsm
    go_wp2_with fail
    refine (lCheck_any _ h bud _ HR.out HS.out (by omega)).mono ?_
    rintro e w2 ⟨vl, L, bb, c, rfl, hrl, hres, hb⟩
    replace HR := Lib.hid (HR.out.on hb)
    replace KW := Lib.hid (KW.out.trans (hb.mono KW.out.size))
    have HL := Lib.hid (hrl)
    clear hb hrl
    have HRES := Lib.hid hres
    obtain ⟨la, lk, rfl, -, -⟩ := slcI HL.out
    clear hres
    go_wp2_with fail
    refine (rwell_any _ h _ HR.out HS.out).mono ?_
    rintro e w3 ⟨rfl, hb⟩
    replace HR := Lib.hid (HR.out.on hb)
    replace KW := Lib.hid (KW.out.trans (hb.mono KW.out.size))
    replace HL := Lib.hid (HL.out.keep hb)
    clear hb
    by_cases hw : wellB h = true
    · have HW := Lib.hid (well_of hw)
      have HC0 : Hid ((chkL h).2 = 0) := Lib.hid (of_decide_eq_true hw)
      rw [hw]
      clear hw
      by_cases h1 : bud < 1
      · obtain ⟨rfl, rfl, rfl⟩ := res_bad HRES.out (.inr h1)
        clear HRES
        go_wp2
        go_ret
        exact ⟨rfl, KW.out⟩
      · rcases res_good HRES.out HC0.out h1 with ⟨hbu, rfl, rfl, rfl⟩ | ⟨hg, rfl, rfl, rfl⟩ | ⟨hg, rfl, rfl, rfl⟩
        · have HBU := Lib.hid (bud_lt hbu)
          clear hbu HRES
          go_wp2
          go_loop [8, 9] (fun s i => ∃ k q : Nat, k ≤ h.length ∧ q = (h.length + 1) * 2 ^ k ∧ q ≤ 1024 ∧ s = .int .i64 q ∧ i = .int .i64 k) (fun _ i => h.length - (intOf i).toNat)
          case atStart => exact ⟨0, h.length + 1, by omega, by simp, by omega, by go_num, rfl⟩
          case round =>
            obtain ⟨k, q, hk, hq, hq2, rfl, rfl⟩ := hrel
            have HQ := Lib.hid hq
            clear hq
            by_cases hlt : k < h.length
            · have hki : (k : Int) < h.length := by omega
              have HP := Lib.hid (pow_step hn7 hlt)
              go_wp2
              go_round
              case rel => exact ⟨k + 1, q * 2, by omega, by rw [HQ.out]; exact HP.out.1, by rw [HQ.out, HP.out.1]; exact HP.out.2, by go_num, by go_num⟩
              case measure => simp [intOf]; omega
            · have hkk : k = h.length := by omega
              subst hkk
              have hbq : bud < (q : Int) := by rw [HQ.out]; exact HBU.out
              go_wp2
              go_ret
              exact ⟨rfl, KW.out⟩
        · have HAL : Hid ((allL h).length = C h 0) := Lib.hid (all_len HW.out)
          have hc7 := C_seven hn7
          have HG := Lib.hid hg
          clear hg HRES
          go_wp2_with fail
          refine (rall_any _ h _ HR.out HS.out (by omega) (by rw [HAL.out]; exact hc7)).mono ?_
          rintro e w4 ⟨va, rfl, ho⟩
          replace HR := Lib.hid (HR.out.on ho.1)
          replace KW := Lib.hid (KW.out.trans (ho.1.mono KW.out.size))
          replace HL := Lib.hid (HL.out.keep ho.1)
          rw [(all_none HW.out).2 HG.out] at ho
          obtain ⟨xa, xk, rfl⟩ := ho.length
          clear ho
          go_wp2
          go_ret
          exact ⟨rfl, KW.out⟩
        · have HAL : Hid ((allL h).length = C h 0) := Lib.hid (all_len HW.out)
          have hc7 := C_seven hn7
          have HG := Lib.hid hg
          clear hg HRES
          go_wp2_with fail
          refine (rall_any _ h _ HR.out HS.out (by omega) (by rw [HAL.out]; exact hc7)).mono ?_
          rintro e w4 ⟨va, rfl, ho⟩
          replace HR := Lib.hid (HR.out.on ho.1)
          replace KW := Lib.hid (KW.out.trans (ho.1.mono KW.out.size))
          replace HL := Lib.hid (HL.out.keep ho.1)
          have hhd := all_head HW.out HG.out
          rw [pathG_zero HG.out] at hhd
          obtain ⟨l, M, hal⟩ : ∃ l M, allL h = l :: M := by
            cases hx : allL h with
            | nil => rw [hx] at hhd; cases hhd
            | cons l M => exact ⟨l, M, rfl⟩
          rw [hal] at ho hhd
          obtain rfl : l = pathG h 0 := by injection hhd
          have hml : M.length ≤ 1000000 := by
            have h1 := HAL.out
            rw [hal] at h1
            simp only [List.length_cons] at h1
            omega
          obtain ⟨g, gc, u, rfl, hg1, hg2, hg3⟩ := first_cell ho
          have HU := Lib.hid hg3.reads
          have hm0 : ¬ ((M.length : Int) + 1 = 0) := by omega
          have hm1 : (((M.length : Int) + 1) == 0) = false := by simp; omega
          have hm2 : (0 : Int) < (M.length : Int) + 1 := by omega
          clear ho hhd hal hg3 hg1
          go_wp2_with fail
          refine (same_any _ u _ (intsN (pathG h 0)) _ HL.out HU.out).mono ?_
          rintro e w5 ⟨rfl, hb⟩
          replace HR := Lib.hid (HR.out.on hb)
          replace KW := Lib.hid (KW.out.trans (hb.mono KW.out.size))
          replace HL := Lib.hid (HL.out.keep hb)
          clear hb
          rw [decide_eq_true rfl]
          go_wp2
          go_ret
          exact ⟨rfl, KW.out⟩
    · have hnw : ¬ (chkL h).2 = 0 := fun h1 => hw (decide_eq_true h1)
      obtain ⟨rfl, rfl, rfl⟩ := res_bad HRES.out (.inl hnw)
      rw [Bool.eq_false_iff.2 hw]
      clear hnw hw HRES
      go_wp2
      go_ret
      exact ⟨rfl, KW.out⟩

set_option maxRecDepth 100000 in
theorem lifted (os : Os) (started : os.Started) (H : Type) (enc : TypeId × Value → H) :
    ReturnsInHanded {} Try.checked os 3 .any (Rows.linearExactSpec.pre6 enc Try.prog Try.f3 Rows.linearExactRow.domain false) (Rows.linearExactSpec.post enc Try.prog Try.f3 false true false false) := by
  refine returnsInHanded_of_change (C := Try.checked) own started (by kernel_rfl) Try.func3
    (ChangeSpec.witness6 (enc := enc) (C := Try.checked) false ⟨#[], #[.slice none 0 0, .int .i64 0], []⟩ 8 (by kernel_rfl) (by kernel_rfl) (by kernel_rfl) (by kernel_rfl)) ?_
  intro W base args ds gs before hval0 hW hcnd _
  have hval : ∀ (j : Nat) t v, Try.f3.params[j]? = some t → args[j]? = some v → Value.okWide Try.prog W .any base t v := hval0
  have hW' := hW
  obtain ⟨p, q, hA0, hV, rfl, hfz, hnd⟩ := hW
  have hA : DataW.TrodAll enc Try.prog W 0 (fun _ => true) true Try.f3.params.toList args.toList ds p := hA0
  rw [Try.params3] at hA hval
  obtain ⟨v0, vs0, d0, ds0, p0, q0, hargs, rfl, rfl, t0, r0⟩ := trodAll_cons hA
  obtain ⟨v1, vs1, d1, ds1, p1, q1, rfl, rfl, rfl, t1, r1⟩ := trodAll_cons r0
  obtain ⟨rfl, rfl, rfl⟩ := trodAll_nil r1
  obtain rfl : args = #[v0, v1] := by cases args; simp_all
  obtain ⟨rfl, rfl⟩ := trodVars_none hV
  obtain ⟨x0, h0⟩ := open_ops (hval 0 22 v0 rfl rfl) t0
  obtain ⟨x1, rfl, _, _, w1⟩ := open_int Try.underlying3 (hval 1 3 v1 rfl rfl) t1
  refine (walk v0 x0 x1 W h0).mono fun e W' ⟨he, hb⟩ => ?_
  subst he
  exact ⟨_, rfl, law_post laidOut rfl (fun _ _ => rfl) (by kernel_rfl) Try.underlying4 (by rw [Try.params3]; exact fun t ht => by simp at ht; rcases ht with  rfl | rfl ; all_goals exact ⟨by kernel_rfl, of_decide_eq_true (by kernel_rfl)⟩) hW' hb⟩

theorem over : Rows.linearExactRow.holds Try.pinned (OpenSpec.ofChange Rows.linearExactSpec) :=
  OpenClaim.holds_of_wide 3 Try.f3 rfl rfl rfl rfl rfl rfl rfl ⟨rfl, rfl, rfl, rfl, rfl⟩ rfl rfl rfl rfl rfl (by kernel_rfl) Try.func3 (by kernel_rfl)
    (of_decide_eq_true (by kernel_rfl)) (by unfold Func.isWrapper; first | (rw [if_pos (by decide +kernel)]; kernel_rfl) | (rw [if_neg (by decide +kernel)]; exact ⟨rfl, rfl⟩))
    (fun os started H enc _ => lifted os started H enc)

theorem proved : Rows.LinearExactSaid := over
end Go.Proofs.Ytgaolgfjbgflgaa.linearExact
