/-
  Chapter 28: process and Connected.
-/
import Derived.Test.YtmcdmcnbnnfhnaaVb
import Derived.WalkSpells
namespace Go.Proofs.Ytmcdmcnbnnfhnaa
open Go.RowKit

def procB (p : Int) : Bool := decide (0 ≤ p) && decide (p ≤ 63)
theorem procB_i {p : Int} (h : procB p = true) : 0 ≤ p ∧ p ≤ 63 := by unfold procB at h; simpa using h
theorem procB_I {p : Int} (h : procB p = true) : I64 p := by have := procB_i h; unfold I64; omega
theorem process_any (p : Int) (w : World) : Calls Try.prog 31 #[.int .i64 p] w fun e w' => e = .returned (.bool (procB p)) ∧ w' = w := by
  unfold procB
  by_cases h1 : 0 ≤ p
  · have e1 : decide (0 ≤ p) = true := by simpa using h1
    by_cases h2 : p ≤ 63
    · have e2 : decide (p ≤ 63) = true := by simpa using h2
      rw [e1, e2]
      go_enter Try.func31, Try.ntmps31
      go_wp2
      go_ret
      exact ⟨rfl, rfl⟩
    · have e2 : decide (p ≤ 63) = false := by simpa using h2
      rw [e1, e2]
      go_enter Try.func31, Try.ntmps31
      go_wp2
      go_ret
      exact ⟨rfl, rfl⟩
  · have e1 : decide (0 ≤ p) = false := by simpa using h1
    rw [e1, Bool.false_and]
    go_enter Try.func31, Try.ntmps31
    go_wp2
    go_ret
    exact ⟨rfl, rfl⟩
/-- Whether two processes are in one group. -/
def pairB (f : Int → Option Int) (a c : Int) : Bool := (f a).isSome && (f c).isSome && ((f a).getD 0 == (f c).getD 0)
def connB (g : Option (Int → Option Int)) (a c : Int) : Bool := procB a && procB c && (match g with | none => true | some f => a == c || pairB f a c)
theorem zeroInt_run (w : World) : (zeroValue 3).run Try.prog w = .ok (.int .i64 0) w := by kernel_rfl
section
variable {P : Nat → Prop} {n b : Nat} {gv : Value} {s : NetS} {w : World} (a c : Int)
def ConnMade (r : Bool) (w : World) (e : Ending) (w' : World) : Prop := e = .returned (.bool r) ∧ w' = w
set_option maxRecDepth 100000
set_option maxHeartbeats 4000000
theorem connected_any (h : NetAt P n b gv s w) : Calls Try.prog 42 #[.pointer (some ⟨n, 0, none⟩), .int .i64 a, .int .i64 c] w (ConnMade (connB s.grp a c) w) := by
  have HF : Hid (∀ r e w', e = .returned (.bool r) → w' = w → ConnMade r w e w') := Lib.hid fun r e w' h1 h2 => ⟨h1, h2⟩
  have d3 : w.cell? ⟨n, 3, none⟩ = some gv := h.box.cell 3
  have HG := Lib.hid h.grp
  clear h
  have HPA := Lib.hid (process_any a w)
  have HPC := Lib.hid (process_any c w)
  generalize hR : connB s.grp a c = R
  have HR : Hid (connB s.grp a c = R) := Lib.hid hR
  clear hR
  cases hpa : procB a with
  | false =>
    obtain rfl : false = R := by rw [← HR.out]; unfold connB; rw [hpa]; rfl
    rw [hpa] at HPA
    clear hpa HG d3
    generalize hQ : ConnMade false w = Q at *
    have HF2 := Lib.hid (HF.out false)
    rw [hQ] at HF2
    clear HF hQ
    go_enter Try.func42, Try.ntmps42
    go_wp2_with fail
    refine HPA.out.mono ?_
    rintro e w' ⟨rfl, rfl⟩
    go_wp2_with fail
    exact HF2.out _ _ rfl rfl
  | true =>
  rw [hpa] at HPA
  have HIA := Lib.hid (procB_I hpa)
  cases hpc : procB c with
  | false =>
    obtain rfl : false = R := by rw [← HR.out]; unfold connB; rw [hpa, hpc]; rfl
    rw [hpc] at HPC
    clear hpa hpc HG d3
    have HF2 := Lib.hid (HF.out false)
    generalize hQ : ConnMade false w = Q at *
    clear HF hQ
    go_enter Try.func42, Try.ntmps42
    go_wp2_with fail
    refine HPA.out.mono ?_
    rintro e w' ⟨rfl, rfl⟩
    go_wp2_with fail
    refine HPC.out.mono ?_
    rintro e w' ⟨rfl, rfl⟩
    go_wp2_with fail
    exact HF2.out _ _ rfl rfl
  | true =>
  rw [hpc] at HPC
  have HIC := Lib.hid (procB_I hpc)
  rcases HG.out with ⟨rfl, hg⟩ | ⟨k, kc, M, f, rfl, hg, -, -, -, hM, hf⟩
  · obtain rfl : true = R := by rw [← HR.out]; unfold connB; rw [hpa, hpc, hg]; rfl
    clear hpa hpc HG hg HR
    have HF2 := Lib.hid (HF.out true)
    generalize hQ : ConnMade true w = Q at *
    clear HF hQ
    have hnil : ∀ (w : World) (r : Option Nat), (binOp .eql 73 (.map r) (.map none)).run Try.prog w = .ok (.bool r.isNone) w := fun w r => run_eql_map_nil w _ _ _ r Try.underlying73
    go_enter Try.func42, Try.ntmps42
    go_wp2_with fail
    refine HPA.out.mono ?_
    rintro e w' ⟨rfl, rfl⟩
    go_wp2_with fail
    refine HPC.out.mono ?_
    rintro e w' ⟨rfl, rfl⟩
    go_wp2_with fail
    exact HF2.out _ _ rfl rfl
  · have HM := Lib.hid hM
    have HFF := Lib.hid hf
    have HGG := Lib.hid hg
    have HQP := Lib.hid (And.intro hpa hpc)
    clear hM hf hg HG hpa hpc
    have hnil : ∀ (w : World) (r : Option Nat), (binOp .eql 73 (.map r) (.map none)).run Try.prog w = .ok (.bool r.isNone) w := fun w r => run_eql_map_nil w _ _ _ r Try.underlying73
    by_cases hac : a = c
    · obtain rfl : true = R := by rw [← HR.out]; unfold connB; rw [HQP.out.1, HQP.out.2, HGG.out, hac]; simp
      clear HR HQP HGG
      have nac : (a == c) = true := beq_t hac
      clear hac
      have HF2 := Lib.hid (HF.out true)
      generalize hQ : ConnMade true w = Q at *
      clear HF hQ
      go_enter Try.func42, Try.ntmps42
      go_wp2_with fail
      refine HPA.out.mono ?_
      rintro e w' ⟨rfl, rfl⟩
      go_wp2_with fail
      refine HPC.out.mono ?_
      rintro e w' ⟨rfl, rfl⟩
      go_wp2_with fail
      exact HF2.out _ _ rfl rfl
    · have nac : (a == c) = false := beq_f hac
      have HV : ∀ x, I64 x → (M x).getD (.int .i64 0) = .int .i64 ((f x).getD 0) ∧ (M x).isSome = (f x).isSome := fun x hx => by
        rw [HFF.out x hx]; cases f x <;> exact ⟨rfl, rfl⟩
      have HVA := Lib.hid (HV a HIA.out)
      have HVC := Lib.hid (HV c HIC.out)
      have HRR : Hid (((f a).isSome && (f c).isSome && ((f a).getD 0 == (f c).getD 0)) = R) := Lib.hid (by rw [← HR.out]; unfold connB pairB; rw [HQP.out.1, HQP.out.2, HGG.out]; simp [nac])
      clear HV HR HQP HGG HFF hac
      have HF2 := Lib.hid (HF.out R)
      generalize hQ : ConnMade R w = Q at *
      clear HF hQ
      generalize (f a).isSome = sa at *
      generalize (f c).isSome = sc at *
      generalize (f a).getD 0 = va at *
      generalize (f c).getD 0 = vc at *
      have HVV : Hid (∀ t, (va == vc) = t → (sa && sc && t) = R) := Lib.hid fun t h => by rw [← h]; exact HRR.out
      clear HRR
      cases hv : va == vc
      all_goals
        have HRT := Lib.hid (HVV.out _ hv)
        clear HVV
        cases sa <;> cases sc
      all_goals
        have hRT := HRT.out
        simp only [Bool.and_true, Bool.and_false, Bool.and_self] at hRT
        subst hRT
        clear HRT
        go_enter Try.func42, Try.ntmps42
        go_wp2_with fail
        refine HPA.out.mono ?_
        rintro e w' ⟨rfl, rfl⟩
        go_wp2_with fail
        refine HPC.out.mono ?_
        rintro e w' ⟨rfl, rfl⟩
        go_wp2_with (first | (refine wpList_mapv_ok rfl 73 (.tmp 33) (.tmp 34) rfl Try.underlying73 zeroInt_run rfl HM.out rfl HIA.out HVA.out.1 HVA.out.2 ?_) | (refine wpList_mapv_ok rfl 73 (.tmp 42) (.tmp 43) rfl Try.underlying73 zeroInt_run rfl HM.out rfl HIC.out HVC.out.1 HVC.out.2 ?_))
        exact HF2.out _ _ rfl rfl
end
end Go.Proofs.Ytmcdmcnbnnfhnaa
