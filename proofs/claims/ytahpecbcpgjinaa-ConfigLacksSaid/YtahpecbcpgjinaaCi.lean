/-
  Chapter 39: equality of commands: bytes, writes, commands, of the program and of the reference.
-/
import Derived.Test.YtahpecbcpgjinaaCh
import Derived.Laws.BytesArg
namespace Go.Proofs.Ytahpecbcpgjinaa
open Go.RowKit

theorem fold_push : ∀ (l : Str) (s : ByteArray), (l.map fun c => ((c.toNat : Nat) : Int)).foldl (fun r n => r.push (UInt8.ofNat n.toNat)) s = ⟨s.data ++ l.toArray⟩
  | [], s => by simp
  | c :: l, s => by
    rw [List.map_cons, List.foldl_cons, fold_push l]
    simp [ByteArray.push]

theorem conv_bytes {w : World} {v : Value} {l : Str} (h : Reads vb w v l) : (convert 50 9 v).run Try.prog w = .ok (.string (toB l)) w := by
  obtain ⟨ao, cap, rfl, hl, hm, hn, hx⟩ := h
  rw [run_convert_bytes_string w 50 9 5 ao l.length cap Try.underlying50 Try.underlying5 Try.underlying9]
  cases ao with
  | none =>
    have h0 : l = [] := List.length_eq_zero_iff.1 (by have := hn rfl; omega)
    subst h0
    rfl
  | some a =>
    have hcells : ∀ j u, (l.map vb)[j]? = some u → w.cell? (a.add j) = some u := fun j u hu => by
      rw [List.getElem?_map] at hu
      by_cases hj : j < l.length
      · rw [List.getElem?_eq_getElem hj] at hu
        simp at hu
        obtain ⟨b, off, e, hb, hc⟩ := hx (by intro e; subst e; simp at hj)
        injection e with e
        subst e
        rw [show Addr.add ⟨b, off, none⟩ j = (⟨b, off + j, none⟩ : Addr) by by_cases h0 : j = 0 <;> simp [Addr.add, h0], hc j hj, hu]
      · rw [List.getElem?_eq_none (by omega)] at hu; simp at hu
    have hld := run_loadCells_list (P := Try.prog) w a (l.map vb) hcells
    rw [List.length_map] at hld
    have := run_bytesToString (P := Try.prog) w a l.length cap (l.map fun c => ((c.toNat : Nat) : Int)) (by rw [hld, List.map_map]; rfl)
    rw [this, fold_push]
    simp [toB]

theorem bytes_eq_any (v u : Value) (a b : Str) (w : World) (hv : Reads vb w v a) (hu : Reads vb w u b) :
    Calls Try.prog 70 #[v, u] w fun e w' => e = .returned (.bool (decide (a = b))) ∧ w = w' := by
  have h1 := conv_bytes hv
  have h2 := conv_bytes hu
  have hb := beq_toB a b
  generalize hd : decide (a = b) = d at *
  clear hd hv hu
  cases d
  all_goals
    go_enter Try.func70, Try.ntmps70
    go_wp2
    go_ret
    exact ⟨rfl, rfl⟩

/-- A write by value. -/
def wrV (x : Str × Str) (vd : Value) : Value := .agg #[vs x.1, vd]

set_option maxHeartbeats 1000000 in
theorem wr_eq_any (x y : Str × Str) (vd ud : Value) (w : World) (hv : Reads vb w vd x.2) (hu : Reads vb w ud y.2) :
    Calls Try.prog 72 #[wrV x vd, wrV y ud] w (BoolMade w (decide (x = y))) := by
  have hbe := bytes_eq_any vd ud x.2 y.2 ((w.alloc (.cells #[vs x.1, vd] 86)).alloc (.cells #[vs y.1, ud] 86)) (hv.keep (below_two _ _ _)) (hu.keep (below_two _ _ _))
  have hs := beq_toB x.1 y.1
  have hd : decide (x = y) = (decide (x.1 = y.1) && decide (x.2 = y.2)) := by
    rw [Bool.eq_iff_iff, Bool.and_eq_true, decide_eq_true_eq, decide_eq_true_eq, decide_eq_true_eq]
    exact Prod.ext_iff
  rw [hd]
  obtain ⟨a1, n1, k1, rfl⟩ := Slc.of_reads hv
  obtain ⟨a2, n2, k2, rfl⟩ := Slc.of_reads hu
  generalize decide (x.2 = y.2) = d at *
  have HB := Lib.hid hbe
  unfold wrV vs
  unfold vs at HB
  by_cases hxy : x.1 = y.1
  · rw [decide_eq_true hxy, Bool.true_and]
    rw [decide_eq_true hxy] at hs
    clear hbe hd hv hu hxy
    go_enter Try.func72, Try.ntmps72
    go_wp2_with fail
    refine HB.out.mono ?_
    rintro e w1 ⟨rfl, rfl⟩
    go_wp2
    go_ret
    exact ⟨rfl, below_two _ _ _⟩
  · rw [decide_eq_false hxy, Bool.false_and]
    rw [decide_eq_false hxy] at hs
    clear hbe hd hv hu hxy HB
    go_enter Try.func72, Try.ntmps72
    go_wp2
    go_ret
    exact ⟨rfl, below_two _ _ _⟩
end Go.Proofs.Ytahpecbcpgjinaa
