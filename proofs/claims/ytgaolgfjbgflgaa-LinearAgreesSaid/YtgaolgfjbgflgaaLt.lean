/-
  Chapter 56: awake.
-/
import Derived.Test.YtgaolgfjbgflgaaLr
import Derived.Test.YtgaolgfjbgflgaaLn
namespace Go.Proofs.Ytgaolgfjbgflgaa
open Go.RowKit

theorem ex56_chk : chkL (exL 4 2) = (0, 0) := by decide +kernel
theorem ex56_G : G (exL 4 2) 0 = true := by decide +kernel
theorem ex56_path : pathG (exL 4 2) 0 = [1, 0, 2] := by decide +kernel
theorem ex56_C : C (exL 4 2) 0 = 1 := by decide +kernel
theorem ex56_res {L : List Int} {b : Bool} {c : Int} (h : LRes (exL 4 2) 1114112 L b c) : L = [1, 0, 2] ∧ b = true ∧ c = 0 := by
  unfold LRes at h
  rw [ex56_chk, ex56_G, ex56_path] at h
  rcases h with ⟨h1 | h1, _⟩ | ⟨_, h | h | h⟩
  · exact absurd rfl h1
  · omega
  · have := h.1
    rw [show (exL 4 2).length = 3 from rfl] at this
    omega
  · cases h.1
  · exact ⟨h.2.1, h.2.2.1, h.2.2.2⟩
theorem ex56_E : cntE (exL 4 2) 5 = 0 := by unfold cntE; rw [ex56_chk, ex56_C]; rfl
theorem ex56_N : cntN (exL 4 2) 5 = 1 := by unfold cntN; rw [ex56_E, ex56_C]; rfl
theorem ex56_made {w w' : World} {e : Ending} (h : CMade w (exL 4 2) 5 e w') : e = .returned (.tuple #[.int .i64 1, .int .i64 0]) ∧ Below w.heap.size w w' := by
  unfold CMade at h; rw [ex56_E, ex56_N] at h; exact h

set_option maxRecDepth 100000 in
set_option maxHeartbeats 8000000 in
theorem awake_any (W : World) : Calls Try.prog 12 #[] W (BoolMade W true) := by
  go_enter Try.func12, Try.ntmps12
  go_wp2_with fail
  refine (example_any _).mono ?_
  rintro e w1 ⟨g, z1, z2, rfl, hg, hx, hb1⟩
  have HX := Lib.hid hx
  have KW := Lib.hid hb1
  clear hg hx hb1
  go_wp2_with fail
  refine (lCheck_any _ (exL 4 2) 1114112 _ HX.out.reads (ex_small _ _) (by decide)).mono ?_
  rintro e w2 ⟨v2, L, b, c, rfl, hr2, hres, hb⟩
  obtain ⟨rfl, rfl, rfl⟩ := ex56_res hres
  replace KW := Lib.hid (KW.out.trans (hb.mono KW.out.size))
  have H2 := Lib.hid hr2
  clear hb hr2 HX hres
  go_wp2_with fail
  refine (example_any _).mono ?_
  rintro e w3 ⟨g2, y1, y2, rfl, hg, hx, hb⟩
  have HX := Lib.hid hx
  replace KW := Lib.hid (KW.out.trans (hb.mono KW.out.size))
  replace H2 := Lib.hid (H2.out.keep hb)
  clear hg hx hb
  go_wp2_with fail
  refine (lCount_any _ (exL 4 2) 5 _ HX.out.reads (ex_small _ _) (by decide) (by decide)).mono ?_
  rintro e w4 hm
  obtain ⟨rfl, hb⟩ := ex56_made hm
  replace KW := Lib.hid (KW.out.trans (hb.mono KW.out.size))
  replace H2 := Lib.hid (H2.out.keep hb)
  clear hm hb HX
  go_wp2_with fail
  have hB5 := (Below.refl w4.heap.size w4).alloc (Nat.le_refl _) (.cells #[.int .i64 1, .int .i64 0, .int .i64 2] 3)
  refine (same_any _ _ [1, 0, 2] [1, 0, 2] _ (H2.out.keep hB5) (reads_litI (xs := [1, 0, 2]) (Blk.new w4 3 #[.int .i64 1, .int .i64 0, .int .i64 2]) rfl (by simp))).mono ?_
  rintro e w5 ⟨rfl, hb⟩
  rw [decide_eq_true rfl]
  replace KW := Lib.hid (KW.out.trans ((hB5.trans (hb.mono hB5.size)).mono KW.out.size))
  clear hb hB5 H2
  go_wp2
  go_ret
  exact ⟨rfl, KW.out⟩
end Go.Proofs.Ytgaolgfjbgflgaa
