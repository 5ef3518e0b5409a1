/-
  LinearMany: for all operations and numbers the law returns true, and what came in reads behind the call as before. No condition.
-/
import Derived.Test.YtgaolgfjbgflgaaLt
import Derived.Test.YtgaolgfjbgflgaaLv
import Derived.Test.YtgaolgfjbgflgaaHq
import Derived.Deep.DeepCutAuto
namespace Go.Proofs.Ytgaolgfjbgflgaa.linearMany
open Go.ChangeShapes Go.WideShapes Go.ChangeAt Go.RowKit

def EW (W : World) : World → List Value → Opn → Prop := fun _ cs o => OpE W cs o
def opA (o : Opn) (va vz : Value) : Array Value := #[.int .i64 (cliO o), .int .i64 (kindO o), .int .i64 (begO o), .int .i64 (endO o), va, vz]
theorem most_is (n : Int) : ∃ M : Nat, wrap64 (17 + wrap64 ((IntKind.u64.wrap n).tmod 20)) = (M : Int) ∧ 17 ≤ M ∧ M ≤ 36 := by
  have h0 : 0 ≤ IntKind.u64.wrap n := by unfold IntKind.wrap; simp [IntKind.bits, IntKind.signed]; exact Int.emod_nonneg _ (by decide)
  have h1 := Int.tmod_nonneg 20 h0
  have h2 := Int.tmod_lt_of_pos (IntKind.u64.wrap n) (show (0 : Int) < 20 by decide)
  generalize (IntKind.u64.wrap n).tmod 20 = q at *
  refine ⟨(17 + q).toNat, ?_, by omega, by omega⟩
  unfold wrap64
  omega
theorem ew_nil (W w : World) (o : Opn) : OwnE (EW W) w (w.alloc (.cells #[] 37)) (.slice (some ⟨w.heap.size, 0, none⟩) 0 0) (List.replicate 0 o) :=
  ⟨(Below.refl _ _).alloc (Nat.le_refl _) _, [], World.ownsRow_made w #[] 0 (Nat.le_refl _) (Nat.zero_le _) rfl, fun k hk => by simp at hk⟩
theorem two_blk (w : World) (c1 : Array Value) (o2 : Obj) : Blk ((w.alloc (.cells c1 37)).alloc o2) w.heap.size 37 c1 := (Blk.new w _ c1).alloc _

set_option maxRecDepth 100000 in
set_option maxHeartbeats 8000000 in
theorem walk (v : Value) (o : Opn) (n : Int) (W : World) (ho : OpAt W v o) : Calls Try.prog 9 #[v, .int .i64 n] W (BoolMade W true) := by
  obtain ⟨xa, za, rfl, ra, sa⟩ := ho
  obtain ⟨x1, y1, z1, rfl⟩ := Slc.of_reads ra
  obtain ⟨x2, y2, z2, rfl⟩ := Slc.of_reads sa
  have HOE : Hid (OpE W (opCs o (.slice x1 y1 z1) (.slice x2 y2 z2)) o) := Lib.hid ⟨_, _, rfl, ra, sa⟩
  clear ra sa
  unfold opV
  go_enter Try.func9, Try.ntmps9
  go_wp2_with fail
  refine (awake_any _).mono ?_
  rintro e w1 ⟨rfl, hb⟩
  have HBK := Lib.hid ((Blk.new W 37 (opA o (.slice x1 y1 z1) (.slice x2 y2 z2))).on hb)
  have KW := Lib.hid (((Below.refl W.heap.size W).alloc (Nat.le_refl _) (.cells (opA o (.slice x1 y1 z1) (.slice x2 y2 z2)) 37)).trans (hb.mono (by simp)))
  clear hb
  have HW1 := Lib.hid (fun (w : World) (hb : Below w1.heap.size w1 w) => KW.out.trans (hb.mono KW.out.size))
  obtain ⟨M, hM, hM1, hM2⟩ := most_is n
  go_wp2
  go_loopg [5, 6] M (fun m u i wr => ∃ k : Nat, m + k = M ∧ i = .int .i64 k ∧ OwnE (EW W) w1 wr u (List.replicate k o))
  case atStart => exact ⟨0, by omega, rfl, ew_nil _ _ _⟩
  case round =>
    obtain ⟨k, hmk, rfl, hown⟩ := hrel
    have HO := Lib.hid hown
    have HM := Lib.hid hmk
    have hk : k ≤ M := by omega
    clear hown hmk
    by_cases hlt : k < M
    · have hki : (k : Int) < (M : Int) := by omega
      have HB2 := Lib.hid (HBK.out.on HO.out.1)
      have c0 := HB2.out.cell 0
      have c1 := HB2.out.cell 1
      have c2 := HB2.out.cell 2
      have c3 := HB2.out.cell 3
      have c4 := HB2.out.cell 4
      have c5 := HB2.out.cell 5
      simp only [opA] at c0 c1 c2 c3 c4 c5
      replace c0 : wr.cell? ⟨W.heap.size, 0, none⟩ = some (.int .i64 (cliO o)) := c0
      replace c1 : wr.cell? ⟨W.heap.size, 1, none⟩ = some (.int .i64 (kindO o)) := c1
      replace c2 : wr.cell? ⟨W.heap.size, 2, none⟩ = some (.int .i64 (begO o)) := c2
      replace c3 : wr.cell? ⟨W.heap.size, 3, none⟩ = some (.int .i64 (endO o)) := c3
      replace c4 : wr.cell? ⟨W.heap.size, 4, none⟩ = some (.slice x1 y1 z1) := c4
      replace c5 : wr.cell? ⟨W.heap.size, 5, none⟩ = some (.slice x2 y2 z2) := c5
      go_wp2_with (at_builtin; refine append_op (stableW w1 W) rfl (.tmp 27) (.tmp 29) rfl _ (List.replicate k o) o (opCs o (.slice x1 y1 z1) (.slice x2 y2 z2)) wr.heap.size rfl (OwnE.later (stableW w1 W) HO.out ((Below.refl _ _).alloc (Nat.le_refl _) _)) rfl (Blk.new wr _ _) HOE.out (by rw [List.length_replicate]; omega) ?_)
      intro v6 w6 hown6
      have H6 : Hid (OwnE (EW W) w1 w6 v6 (List.replicate (k + 1) o)) := Lib.hid (by rw [List.replicate_succ']; exact hown6)
      clear hown6 c0 c1 c2 c3 c4 c5
      go_wp2
      go_roundg (M - (k + 1))
      case measure => have := HM.out; omega
      case rel => exact ⟨k + 1, by omega, by go_num, H6.out⟩
    · have hkk : k = M := by omega
      subst hkk
      have HRO : Hid (ReadsO wr u5 (List.replicate k o)) := Lib.hid (HO.out.reads fun _ _ h => op_keep h (HW1.out _ HO.out.1))
      have HK2 := Lib.hid (HW1.out _ HO.out.1)
      have hlen : 16 < (List.replicate k o).length := by rw [List.length_replicate]; omega
      have HLEN := Lib.hid hlen
      clear hlen
      go_wp2_with fail
      refine (mcheck_any u5 _ _ _ HRO.out HLEN.out).mono ?_
      rintro e w7 ⟨rfl, rfl⟩
      go_wp2_with fail
      refine (mcount_any u5 _ _ _ HRO.out HLEN.out).mono ?_
      rintro e w8 ⟨rfl, hb⟩
      replace HRO := Lib.hid (HRO.out.on hb)
      replace HK2 := Lib.hid (HK2.out.trans (hb.mono HK2.out.size))
      clear hb
      go_wp2_with fail
      refine (mearly_any u5 _ _ HRO.out HLEN.out).mono ?_
      rintro e w9 ⟨rfl, rfl⟩
      go_wp2
      go_ret
      exact ⟨rfl, HK2.out⟩

set_option maxRecDepth 100000 in
theorem lifted (os : Os) (started : os.Started) (H : Type) (enc : TypeId × Value → H) :
    ReturnsInHanded {} Try.checked os 9 .any (Rows.linearManySpec.pre6 enc Try.prog Try.f9 Rows.linearManyRow.domain false) (Rows.linearManySpec.post enc Try.prog Try.f9 false true false false) := by
  refine returnsInHanded_of_change (C := Try.checked) own started (by kernel_rfl) Try.func9
    (ChangeSpec.witness6 (enc := enc) (C := Try.checked) false ⟨#[], #[.agg #[.int .i64 0, .int .i64 0, .int .i64 0, .int .i64 0, .slice none 0 0, .slice none 0 0], .int .i64 0], []⟩ 8 (by kernel_rfl) (by kernel_rfl) (by kernel_rfl) (by kernel_rfl)) ?_
  intro W base args ds gs before hval0 hW hcnd _
  have hval : ∀ (j : Nat) t v, Try.f9.params[j]? = some t → args[j]? = some v → Value.okWide Try.prog W .any base t v := hval0
  have hW' := hW
  obtain ⟨p, q, hA0, hV, rfl, hfz, hnd⟩ := hW
  have hA : DataW.TrodAll enc Try.prog W 0 (fun _ => true) true Try.f9.params.toList args.toList ds p := hA0
  rw [Try.params9] at hA hval
  obtain ⟨v0, vs0, d0, ds0, p0, q0, hargs, rfl, rfl, t0, r0⟩ := trodAll_cons hA
  obtain ⟨v1, vs1, d1, ds1, p1, q1, rfl, rfl, rfl, t1, r1⟩ := trodAll_cons r0
  obtain ⟨rfl, rfl, rfl⟩ := trodAll_nil r1
  obtain rfl : args = #[v0, v1] := by cases args; simp_all
  obtain ⟨rfl, rfl⟩ := trodVars_none hV
  obtain ⟨x0, h0⟩ := open_op1 (hval 0 37 v0 rfl rfl) t0
  obtain ⟨x1, rfl, _, _, w1⟩ := open_int Try.underlying3 (hval 1 3 v1 rfl rfl) t1
  refine (walk v0 x0 x1 W h0).mono fun e W' ⟨he, hb⟩ => ?_
  subst he
  exact ⟨_, rfl, law_post laidOut rfl (fun _ _ => rfl) (by kernel_rfl) Try.underlying4 (by rw [Try.params9]; exact fun t ht => by simp at ht; rcases ht with  rfl | rfl ; all_goals exact ⟨by kernel_rfl, of_decide_eq_true (by kernel_rfl)⟩) hW' hb⟩

theorem over : Rows.linearManyRow.holds Try.pinned (OpenSpec.ofChange Rows.linearManySpec) :=
  OpenClaim.holds_of_wide 9 Try.f9 rfl rfl rfl rfl rfl rfl rfl ⟨rfl, rfl, rfl, rfl, rfl⟩ rfl rfl rfl rfl rfl (by kernel_rfl) Try.func9 (by kernel_rfl)
    (of_decide_eq_true (by kernel_rfl)) (by unfold Func.isWrapper; first | (rw [if_pos (by decide +kernel)]; kernel_rfl) | (rw [if_neg (by decide +kernel)]; exact ⟨rfl, rfl⟩))
    (fun os started H enc _ => lifted os started H enc)

theorem proved : Rows.LinearManySaid := over
end Go.Proofs.Ytgaolgfjbgflgaa.linearMany
