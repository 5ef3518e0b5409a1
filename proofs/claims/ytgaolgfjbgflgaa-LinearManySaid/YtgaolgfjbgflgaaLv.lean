/-
  Chapter 56: more operations than the limit.
-/
import Derived.Test.YtgaolgfjbgflgaaLj
namespace Go.Proofs.Ytgaolgfjbgflgaa
open Go.RowKit

theorem op_keep {w w' : World} {cs : List Value} {o : Opn} (h : OpE w cs o) (hb : Below w.heap.size w w') : OpE w' cs o := by
  obtain ⟨va, vz, h0, h1, h2⟩ := h
  exact ⟨va, vz, h0, h1.keep hb, h2.keep hb⟩
set_option maxRecDepth 100000 in
theorem mcheck_any (v : Value) (h : List Opn) (bud : Int) (W : World) (hr : ReadsO W v h) (hn : 16 < h.length) : Calls Try.prog 14 #[v, .int .i64 bud] W (fun e w' => e = .returned (.tuple #[.slice none 0 0, .bool false, .int .i64 6]) ∧ w' = W) := by
  have HC := Lib.hid (lcheck_many v h W hr hn)
  obtain ⟨ao, cap, rfl, -, -, -, -⟩ := hr
  go_enter Try.func14, Try.ntmps14
  go_wp2_with fail
  refine HC.out.mono ?_
  rintro e w1 ⟨rfl, hw⟩
  have HW := Lib.hid hw
  clear hw
  go_wp2
  refine bodyPost_ret (v := .tuple #[.slice none 0 0, .bool false, .int .i64 6]) (by simp [results, Try.results14, go_sem]) rfl ?_
  exact ⟨rfl, HW.out⟩
set_option maxRecDepth 100000 in
theorem mearly_any (v : Value) (h : List Opn) (W : World) (hr : ReadsO W v h) (hn : 16 < h.length) : Calls Try.prog 21 #[v] W (fun e w' => e = .returned (.tuple #[.int .i64 0, .bool false, .int .i64 6]) ∧ w' = W) := by
  have HC := Lib.hid (lcheck_many v h W hr hn)
  obtain ⟨ao, cap, rfl, -, -, -, -⟩ := hr
  go_enter Try.func21, Try.ntmps21
  go_wp2_with fail
  refine HC.out.mono ?_
  rintro e w1 ⟨rfl, hw⟩
  have HW := Lib.hid hw
  clear hw
  go_wp2
  refine bodyPost_ret (v := .tuple #[.int .i64 0, .bool false, .int .i64 6]) (by simp [results, Try.results21, go_sem]) rfl ?_
  exact ⟨rfl, HW.out⟩
set_option maxRecDepth 100000 in
theorem mcount_any (v : Value) (h : List Opn) (lim : Int) (W : World) (hr : ReadsO W v h) (hn : 16 < h.length) : Calls Try.prog 18 #[v, .int .i64 lim] W (fun e w' => e = .returned (.tuple #[.int .i64 0, .int .i64 6]) ∧ Below W.heap.size W w') := by
  obtain ⟨xa, xn, xk, rfl⟩ := Slc.of_readsK hr
  have HR := Lib.hid hr
  clear hr
  go_enter Try.func18, Try.ntmps18
  have HB0 : Hid (Below W.heap.size W ((W.alloc (.cells #[.slice xa xn xk] 22)).alloc (.cells #[.int .i64 lim] 3))) := Lib.hid (((Below.refl _ _).alloc (Nat.le_refl _) _).alloc (by simp) _)
  have HBK : Hid (Blk ((W.alloc (.cells #[.slice xa xn xk] 22)).alloc (.cells #[.int .i64 lim] 3)) W.heap.size 22 #[.slice xa xn xk]) := Lib.hid ((Blk.new _ _ _).alloc _)
  have c0 := HBK.out.cell 0
  go_wp2_with fail
  refine (lcheck_many _ h _ (HR.out.on HB0.out) hn).mono ?_
  rintro e w1 ⟨rfl, hw⟩
  have HW : Hid (Below W.heap.size W w1) := Lib.hid (by rw [hw]; exact HB0.out)
  clear hw
  go_wp2
  refine bodyPost_ret (v := .tuple #[.int .i64 0, .int .i64 6]) (by simp [results, Try.results18, go_sem]) rfl ?_
  exact ⟨rfl, HW.out⟩
end Go.Proofs.Ytgaolgfjbgflgaa
