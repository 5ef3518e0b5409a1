/-
  Chapter 39: Part, Valid and Is of the reference of layer 31; append to a list of the call's own.
-/
import Derived.Test.YtahpecbcpgjinaaCc
import Derived.Laws.AppendOwnNone
namespace Go.Proofs.Ytahpecbcpgjinaa
open Go.RowKit

theorem Try.infoInt : (Try.prog.info? 3).map (fun i => (i.zero, i.size, i.bytes)) = some (some (.int .i64 0), 1, 8) := by kernel_rfl
theorem info_parts {P : Program} {t : TypeId} {z : Value} {s b : Nat} (h : (P.info? t).map (fun i => (i.zero, i.size, i.bytes)) = some (some z, s, b)) : ∃ i, P.info? t = some i ∧ i.zero = some z ∧ i.size = s ∧ i.bytes = b := by
  cases hi : P.info? t with
  | none => rw [hi] at h; simp at h
  | some i => rw [hi] at h; simp at h; exact ⟨i, rfl, h.1, h.2.1, h.2.2⟩
theorem grown_refl (w : World) (row : Option Nat) : w.grownBy w row := ⟨rfl, rfl, rfl, Nat.le_refl _, fun _ _ _ => rfl⟩
theorem cell_one_new (w : World) (x : Value) (t : TypeId) : ∀ j u, [x][j]? = some u → (w.alloc (.cells #[x] t)).cell? ((⟨w.heap.size, 0, none⟩ : Addr).add j) = some u := by
  intro j u hu
  have hadd : (⟨w.heap.size, 0, none⟩ : Addr).add j = ⟨w.heap.size, j, none⟩ := by unfold Addr.add; split <;> simp_all
  rw [hadd, cell_of_row (w.alloc (.cells #[x] t)) w.heap.size j #[x] t (0, 0) (heap_alloc_new w _)]
  simpa using hu

/-- One element more in a row of the call's own. -/
theorem append_one {α : Type} {enc : α → Value} {w2 wr wd w1 : World} {e : TypeId} {out : List α} {x : α} {o : Obj} {v v' : Value} (hown : wr.ownsRow w2.heap.size e 1 v out.length (out.map enc)) (hb : Below w2.heap.size w2 wr)
    (hgr : (wd.alloc o).grownBy w1 v.ownBlock) (hown' : w1.ownsRow w2.heap.size e 1 v' (out.length + 1) (out.map enc ++ [enc x])) (hd : wd.heap = wr.heap := by rfl) (ht : wd.tape = wr.tape := by rfl) (hos : wd.os = wr.os := by rfl) (hout : wd.output = wr.output := by rfl) :
    w1.ownsRow w2.heap.size e 1 v' (out ++ [x]).length ((out ++ [x]).map enc) ∧ Below w2.heap.size w2 w1 := by
  refine ⟨by rw [List.length_append, List.map_append]; exact hown', ⟨hgr.os.trans (hos.trans hb.os), hgr.tape.trans (ht.trans hb.tape), hgr.output.trans (hout.trans hb.output), ?_, fun k hk => ?_⟩⟩
  · have h1 := hgr.size
    have h2 := hb.size
    simp [hd] at h1; omega
  · have h2 := hb.size
    rw [hgr.block k (by simp [hd]; omega) (fun e => by have := (hown.lt k e.symm).1; omega), Below.heap_alloc _ _ _ (by rw [hd]; omega), hd]
    exact hb.block k hk

/-- A list of integers, made by the call. -/
def MadeI (w : World) (xs : List Int) (e : Ending) (w' : World) : Prop := ∃ v', e = .returned v' ∧ Reads vi w' v' xs ∧ Below w.heap.size w w'

def partL (xs ys : List Int) (b : Bool) : List Int := xs.filter fun r => decide (r ∈ ys) == b

theorem part_in {xs ys : List Int} {b : Bool} {k : Nat} (h : k < xs.length) (hm : (decide (xs[k] ∈ ys) == b) = true) : partL (xs.take (k + 1)) ys b = partL (xs.take k) ys b ++ [xs[k]] := by
  unfold partL
  rw [List.take_succ_eq_append_getElem h, List.filter_append]
  simp [hm]
theorem part_out {xs ys : List Int} {b : Bool} {k : Nat} (h : k < xs.length) (hm : (decide (xs[k] ∈ ys) == b) = false) : partL (xs.take (k + 1)) ys b = partL (xs.take k) ys b := by
  unfold partL
  rw [List.take_succ_eq_append_getElem h, List.filter_append]
  simp [hm]
theorem part_len (xs ys : List Int) (b : Bool) (k : Nat) : (partL (xs.take k) ys b).length ≤ k := by
  unfold partL
  exact Nat.le_trans (List.length_filter_le _ _) (by simp; omega)

set_option maxHeartbeats 1000000 in
theorem part_any (v u : Value) (xs ys : List Int) (b : Bool) (w : World) (hr : Reads vi w v xs) (hq : Reads vi w u ys) (hn : xs.length ≤ 1000000) :
    Calls Try.prog 33 #[v, u, .bool b] w (MadeI w (partL xs ys b)) := by
  obtain ⟨i0, hinf, hz0, hz1, hz2⟩ := info_parts Try.infoInt
  have HI := Lib.hid (And.intro hinf (And.intro hz0 (And.intro hz1 hz2)))
  clear hinf hz0 hz1 hz2
  have HQ := Lib.hid hq
  obtain ⟨ao, cap, rfl, hl, hm, hno, hx⟩ := hr
  unfold maxLen at hm
  have HXX := Lib.hid hx
  clear hx hq hno
  go_enter Try.func33, Try.ntmps33
  go_wp2
  go_loopg [7, 8] xs.length (fun m o i wr => ∃ k : Nat, m + k = xs.length ∧ i = .int .i64 k ∧ wr.ownsRow w.heap.size 3 1 o (partL (xs.take k) ys b).length ((partL (xs.take k) ys b).map vi) ∧ Below w.heap.size w wr)
  case atStart => exact ⟨0, by omega, rfl, by simp [partL, World.ownsRow], Below.refl _ _⟩
  case round =>
    obtain ⟨k, hmk, rfl, hown, hbel⟩ := hrel
    have HM := Lib.hid hmk
    have hk : k ≤ xs.length := by omega
    have HO := Lib.hid (And.intro hown hbel)
    clear hmk hown hbel
    by_cases hlt : k < xs.length
    · obtain ⟨bl, off, rfl, hb, hc⟩ := HXX.out (by intro e; subst e; simp at hlt)
      have hcell : wr.cell? ⟨bl, off + k, none⟩ = some (.int .i64 xs[k]) := (HO.out.2.cell hb).trans (hc k hlt)
      clear hc
      have hh := has31_any u ys xs[k] wr (HQ.out.keep HO.out.2)
      have hol := part_len xs ys b k
      have h1 := @part_in xs ys b k hlt
      have h2 := @part_out xs ys b k hlt
      generalize xs[k] = x at *
      generalize decide (x ∈ ys) = d at *
      have HH := Lib.hid hh
      clear hh
      by_cases hd : (d == b) = true
      · have HE := Lib.hid (h1 hd)
        clear h1 h2
        generalize partL (xs.take k) ys b = out at *
        go_wp2_with fail
        refine HH.out.mono ?_
        rintro e w1 ⟨rfl, rfl⟩
        go_wp2_with (at_builtin; refine wpList_append_own _ rfl _ _ 22 rfl w.heap.size 3 i0 (.int .i64 0) 1 8 Try.underlying22 HI.out.1 HI.out.2.1 HI.out.2.2.1 HI.out.2.2.2 rfl (by decide) _ _ _ rfl (by exact HO.out.1.alloc _) ⟨_, 0, none⟩ 1 1 [.int .i64 x] rfl rfl ?q1 ?q2 ?q3 ?q4 ?q5 ?_)
        case q1 => exact cell_one_new _ _ _
        case q2 => intro u hu; simp at hu; subst hu; rfl
        case q3 => unfold maxLen; omega
        case q4 => omega
        case q5 => have := HO.out.2.size; simp; omega
        intro v3 w3 hown3 hgr3 _
        have H3 := Lib.hid (append_one (x := x) HO.out.1 HO.out.2 (by exact hgr3) hown3)
        clear hown3 hgr3
        go_wp2
        go_roundg (xs.length - (k + 1))
        case measure => have := HM.out; omega
        case rel => exact ⟨k + 1, by omega, by go_num, by rw [HE.out]; exact H3.out.1, H3.out.2⟩
      · have hd := Bool.eq_false_iff.2 hd
        have HE := Lib.hid (h2 hd)
        clear h1 h2
        go_wp2_with fail
        refine HH.out.mono ?_
        rintro e w1 ⟨rfl, rfl⟩
        go_wp2
        go_roundg (xs.length - (k + 1))
        case measure => have := HM.out; omega
        case rel => exact ⟨k + 1, by omega, by go_num, by rw [HE.out]; exact HO.out.1, HO.out.2⟩
    · have HV : Hid (partL (xs.take k) ys b = partL xs ys b) := Lib.hid (by rw [List.take_of_length_le (by omega)])
      go_wp2
      go_ret
      exact ⟨_, rfl, by rw [← HV.out]; exact Reads.of_owns HO.out.1, HO.out.2⟩
end Go.Proofs.Ytahpecbcpgjinaa
