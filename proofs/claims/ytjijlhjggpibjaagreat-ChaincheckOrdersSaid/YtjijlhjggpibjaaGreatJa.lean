/-
  Intersect of the reference of layer 02.
-/
import Derived.Test.YtjijlhjggpibjaaGreatHc
namespace Go.Proofs.YtjijlhjggpibjaaGreat
open Go.RowKit

def interF (xs ys : List Str) (k : Nat) : List Str := (xs.take k).filter fun s => decide (s ∈ ys)
def interL (xs ys : List Str) : List Str := ofL (xs.filter fun s => decide (s ∈ ys))
theorem inter_in {xs ys : List Str} {k : Nat} (h : k < xs.length) (hm : xs[k] ∈ ys) : interF xs ys (k + 1) = interF xs ys k ++ [xs[k]] := by
  unfold interF
  rw [List.take_succ_eq_append_getElem h, List.filter_append]
  simp [hm]
theorem inter_out {xs ys : List Str} {k : Nat} (h : k < xs.length) (hm : xs[k] ∉ ys) : interF xs ys (k + 1) = interF xs ys k := by
  unfold interF
  rw [List.take_succ_eq_append_getElem h, List.filter_append]
  simp [hm]
theorem inter_len (xs ys : List Str) (k : Nat) : (interF xs ys k).length ≤ xs.length := by
  unfold interF
  exact Nat.le_trans (List.length_filter_le _ _) (by simp; omega)

set_option maxHeartbeats 2000000 in
theorem inter_any (v u : Value) (xs ys : List Str) (w : World) (hr : Reads vs w v xs) (hq : Reads vs w u ys) (hn : xs.length ≤ 1000000) :
    Calls Tryz.prog 61 #[v, u] w fun e w' => ∃ v', e = .returned v' ∧ Reads vs w' v' (interL xs ys) ∧ Below w.heap.size w w' := by
  obtain ⟨i0, hinf, hz0, hz1, hz2⟩ := info_parts Tryz.infoStr
  have HI := Lib.hid (And.intro hinf (And.intro hz0 (And.intro hz1 hz2)))
  clear hinf hz0 hz1 hz2
  have HR := Lib.hid hr
  have HQ := Lib.hid hq
  obtain ⟨ao, cap, rfl, hl, hm, hno, hx⟩ := hr
  unfold maxLen at hm
  clear hx hq hno
  go_enter Tryz.func61, Tryz.ntmps61
  go_wp2
  go_loopg [6, 5] (xs.length) (fun m i o wr => ∃ k : Nat, m + k = xs.length ∧ i = .int .i64 k ∧ wr.ownsRow w.heap.size 9 1 o (interF xs ys k).length ((interF xs ys k).map vs) ∧ Below w.heap.size w wr)
  case atStart =>
    refine ⟨0, by omega, rfl, ?_, (Below.refl _ _).alloc (Nat.le_refl _) _⟩
    exact World.ownsRow_made w #[] 0 (Nat.le_refl _) (Nat.zero_le _) rfl
  case round =>
    obtain ⟨k, hmk, rfl, hown, hbel⟩ := hrel
    have HM := Lib.hid hmk
    have hk : k ≤ xs.length := by omega
    have HO := Lib.hid (And.intro hown hbel)
    clear hmk hown hbel
    by_cases hlt : k < xs.length
    · obtain ⟨b, off, c1, hv, hb, hc⟩ := str_at HR.out hlt
      injection hv with e1 e2 e3
      subst e1
      have hki : (k : Int) < xs.length := by omega
      have hk0 : (0 : Int) ≤ (k : Int) := by omega
      have hcell : wr.cell? ⟨b, off + k, none⟩ = some (.string (toB xs[k])) := (HO.out.2.cell (p := ⟨b, off + k, none⟩) hb).trans hc
      have HH := Lib.hid (rhas_any u ys xs[k] wr (HQ.out.keep HO.out.2))
      have HIN := Lib.hid (@inter_in xs ys k hlt)
      have HOUT := Lib.hid (@inter_out xs ys k hlt)
      have hol := inter_len xs ys k
      clear e2 e3 hc
      generalize interF xs ys k = out at *
      generalize xs[k] = x at *
      go_wp2_with fail
      refine HH.out.mono ?_
      rintro e w1 ⟨rfl, rfl⟩
      by_cases hmem : x ∈ ys
      · rw [decide_eq_true hmem]
        have HE := Lib.hid (HIN.out hmem)
        clear hmem
        go_wp2_with (at_builtin; refine wpList_append_own _ rfl _ _ 33 rfl w.heap.size 9 i0 (.string ⟨#[]⟩) 1 16 Tryz.underlying33 HI.out.1 HI.out.2.1 HI.out.2.2.1 HI.out.2.2.2 rfl (by decide) _ _ _ rfl (by exact HO.out.1.alloc _) ⟨_, 0, none⟩ 1 1 [.string (toB x)] rfl rfl ?q1 ?q2 ?q3 ?q4 ?q5 ?_)
        case q1 => exact cell_one_new _ _ _
        case q2 => intro u hu; simp at hu; subst hu; rfl
        case q3 => unfold maxLen; omega
        case q4 => omega
        case q5 => have := HO.out.2.size; simp; omega
        intro v3 w3 hown3 hgr3 _
        have H3 := Lib.hid (append_keep (x := x) HO.out.1 HO.out.2 (by exact hgr3) hown3)
        clear hown3 hgr3
        go_wp2
        go_roundg (xs.length - (k + 1))
        case measure => have := HM.out; omega
        case rel => exact ⟨k + 1, by omega, by go_num, by rw [HE.out]; exact H3.out.1, H3.out.2⟩
      · rw [decide_eq_false hmem]
        have HE := Lib.hid (HOUT.out hmem)
        clear hmem
        go_wp2
        go_roundg (xs.length - (k + 1))
        case measure => have := HM.out; omega
        case rel => exact ⟨k + 1, by omega, by go_num, by rw [HE.out]; exact HO.out.1, HO.out.2⟩
    · have hkk : k = xs.length := by omega
      subst hkk
      have hf : interF xs ys xs.length = xs.filter fun s => decide (s ∈ ys) := by unfold interF; rw [List.take_length]
      have HF := Lib.hid hf
      have hol := inter_len xs ys xs.length
      have HC := Lib.hid (rof_any _ (interF xs ys xs.length) wr (Reads.of_owns HO.out.1) (by omega))
      clear hf
      go_wp2_with fail
      refine HC.out.mono ?_
      rintro e w1 ⟨v1, rfl, hown, hb1⟩
      have H1 : Hid (Reads vs w1 v1 (interL xs ys) ∧ Below w.heap.size w w1) := Lib.hid ⟨by have h1 := Reads.of_owns hown; rw [HF.out] at h1; exact h1, HO.out.2.trans (hb1.mono HO.out.2.size)⟩
      clear hown hb1
      go_wp2
      go_ret
      exact ⟨_, rfl, H1.out.1, H1.out.2⟩
end Go.Proofs.YtjijlhjggpibjaaGreat
