/-
  Chapter 02: Minus and Subset of the reference.
-/
import Derived.Test.YtgolodpihmdmoaaSg
import Derived.Test.YtgolodpihmdmoaaNm
import Derived.Test.YtgolodpihmdmoaaNk
namespace Go.Proofs.Ytgolodpihmdmoaa
open Go.RowKit

def outs (xs ys : List Str) (k : Nat) : List Str := (xs.take k).filter fun s => !decide (s ∈ ys)

theorem outs_old {xs ys : List Str} {k : Nat} (h : k < xs.length) (hm : decide (xs[k] ∈ ys) = true) : outs xs ys (k + 1) = outs xs ys k := by
  unfold outs
  rw [List.take_succ_eq_append_getElem h, List.filter_append]
  simp [of_decide_eq_true hm]
theorem outs_new {xs ys : List Str} {k : Nat} (h : k < xs.length) (hm : decide (xs[k] ∈ ys) = false) : outs xs ys (k + 1) = outs xs ys k ++ [xs[k]] := by
  unfold outs
  rw [List.take_succ_eq_append_getElem h, List.filter_append]
  simp [of_decide_eq_false hm]
theorem outs_len (xs ys : List Str) (k : Nat) : (outs xs ys k).length ≤ xs.length := by
  unfold outs
  exact Nat.le_trans (List.length_filter_le _ _) (by simp; omega)

set_option maxHeartbeats 2000000 in
theorem rminus_any (v u : Value) (xs ys : List Str) (w : World) (hr : Reads vs w v xs) (hq : Reads vs w u ys) (hn : xs.length ≤ 1000000) :
    Calls Try.prog 52 #[v, u] w fun e w' => ∃ v', e = .returned v' ∧ Reads vs w' v' (ofL (outs xs ys xs.length)) ∧ Below w.heap.size w w' := by
  obtain ⟨i0, hinf, hz0, hz1, hz2⟩ := info_parts Try.infoStr
  have HI := Lib.hid (And.intro hinf (And.intro hz0 (And.intro hz1 hz2)))
  clear hinf hz0 hz1 hz2
  have HQ := Lib.hid hq
  clear hq
  obtain ⟨ao, cap, rfl, hl, hm, hno, hx⟩ := hr
  unfold maxLen at hm
  have HXX := Lib.hid hx
  clear hx hno
  go_enter Try.func52, Try.ntmps52
  go_wp2
  go_loopg [5, 6] (xs.length) (fun m o i wr => ∃ k : Nat, m + k = xs.length ∧ i = .int .i64 k ∧ wr.ownsRow w.heap.size 9 1 o (outs xs ys k).length ((outs xs ys k).map vs) ∧ Below w.heap.size w wr)
  case atStart =>
    refine ⟨0, by omega, rfl, ?_, (Below.refl _ _).alloc (Nat.le_refl _) _⟩
    exact World.ownsRow_made w #[] 0 (Nat.le_refl _) (Nat.zero_le _) rfl
  case round =>
    obtain ⟨k, hmk, rfl, hown, hbel⟩ := hrel
    have HM := Lib.hid hmk
    have hk : k ≤ xs.length := by omega
    have HO := Lib.hid (And.intro hown hbel)
    clear hmk hown hbel
    by_cases hlt : k < xs.length
    · obtain ⟨b, off, rfl, hb, hc⟩ := HXX.out (by intro e; subst e; simp at hlt)
      have hcell : wr.cell? ⟨b, off + k, none⟩ = some (.string (toB xs[k])) := (HO.out.2.cell hb).trans (hc k hlt)
      clear hc
      have hh := rhas_any u ys xs[k] wr (HQ.out.keep HO.out.2)
      by_cases hmem : decide (xs[k] ∈ ys) = true
      · rw [hmem] at hh
        have HH := Lib.hid hh
        have HE := Lib.hid (outs_old hlt hmem)
        clear hh hmem
        go_wp2_with fail
        refine HH.out.mono ?_
        rintro e w1 ⟨rfl, rfl⟩
        go_wp2
        go_roundg (xs.length - (k + 1))
        case measure => have := HM.out; omega
        case rel => exact ⟨k + 1, by omega, by go_num, by rw [HE.out]; exact HO.out.1, HO.out.2⟩
      · have hmem := Bool.eq_false_iff.2 hmem
        rw [hmem] at hh
        have HH := Lib.hid hh
        have HE := Lib.hid (outs_new hlt hmem)
        have hol := outs_len xs ys k
        clear hh hmem
        generalize outs xs ys k = out at *
        generalize xs[k] = x at *
        go_wp2_with fail
        refine HH.out.mono ?_
        rintro e w1 ⟨rfl, rfl⟩
        go_wp2_with (at_builtin; refine wpList_append_own _ rfl _ _ 24 rfl w.heap.size 9 i0 (.string ⟨#[]⟩) 1 16 Try.underlying24 HI.out.1 HI.out.2.1 HI.out.2.2.1 HI.out.2.2.2 rfl (by decide) _ _ _ rfl (by exact HO.out.1.alloc _) ⟨_, 0, none⟩ 1 1 [.string (toB x)] rfl rfl ?q1 ?q2 ?q3 ?q4 ?q5 ?_)
        case q1 => exact cell_one_new _ _ _
        case q2 => intro u hu; simp at hu; subst hu; rfl
        case q3 => unfold maxLen; omega
        case q4 => omega
        case q5 => have := HO.out.2.size; simp; omega
        intro v3 w3 hown3 hgr3 _
        have H3 := Lib.hid (append_keep HO.out.1 HO.out.2 (by exact hgr3) hown3)
        clear hown3 hgr3
        go_wp2
        go_roundg (xs.length - (k + 1))
        case measure => have := HM.out; omega
        case rel => exact ⟨k + 1, by omega, by go_num, by rw [HE.out]; exact H3.out.1, H3.out.2⟩
    · have hkn : k = xs.length := by omega
      subst hkn
      go_wp2_with fail
      refine (rof_any _ (outs xs ys xs.length) _ (Reads.of_owns HO.out.1) (by have := outs_len xs ys xs.length; omega)).mono ?_
      rintro e w2 ⟨v2, rfl, ho2, hb2⟩
      have H2 := Lib.hid (And.intro (Reads.of_owns ho2) (HO.out.2.trans (hb2.mono HO.out.2.size)))
      clear ho2 hb2
      go_wp2
      go_ret
      exact ⟨_, rfl, H2.out.1, H2.out.2⟩

theorem outs_nil (xs ys : List Str) : (ofL (outs xs ys xs.length)).length = 0 ↔ ∀ s ∈ xs, s ∈ ys := by
  rw [List.length_eq_zero_iff, List.eq_nil_iff_forall_not_mem]
  constructor
  · intro h s hs
    have := h s
    rw [mem_ofL] at this
    simp only [outs, List.take_length, List.mem_filter, not_and] at this
    simpa using this hs
  · intro h s hs
    rw [mem_ofL] at hs
    simp only [outs, List.take_length, List.mem_filter] at hs
    simp [h s hs.1] at hs

theorem rsubset_any (v u : Value) (xs ys : List Str) (w : World) (hr : Reads vs w v xs) (hq : Reads vs w u ys) (hn : xs.length ≤ 1000000) :
    Calls Try.prog 36 #[v, u] w fun e w' => e = .returned (.bool (decide (∀ s ∈ xs, s ∈ ys))) ∧ Below w.heap.size w w' := by
  have hd : decide ((ofL (outs xs ys xs.length)).length = 0) = decide (∀ s ∈ xs, s ∈ ys) := by
    by_cases h : ∀ s ∈ xs, s ∈ ys
    · rw [decide_eq_true h, decide_eq_true ((outs_nil xs ys).2 h)]
    · rw [decide_eq_false h, decide_eq_false (fun h2 => h ((outs_nil xs ys).1 h2))]
  have HD := Lib.hid hd
  have hc := rminus_any v u xs ys w hr hq hn
  generalize ofL (outs xs ys xs.length) = L at *
  have HC := Lib.hid hc
  clear hd hc hr hq
  go_enter Try.func36, Try.ntmps36
  go_wp2_with fail
  refine HC.out.mono ?_
  rintro e w1 ⟨v1, rfl, hr1, hb1⟩
  obtain ⟨ao, cap, rfl, hl, hm, hno, hx⟩ := hr1
  unfold maxLen at hm
  have HB := Lib.hid hb1
  clear hb1 hx hno
  by_cases h0 : L.length = 0
  · have HD2 := Lib.hid (HD.out.symm.trans (decide_eq_true h0))
    go_wp2
    go_ret
    exact ⟨by rw [HD2.out]; rfl, HB.out⟩
  · have HD2 := Lib.hid (HD.out.symm.trans (decide_eq_false h0))
    have hz : ((L.length : Int) == 0) = false := by rw [beq_eq_false_iff_ne]; omega
    go_wp2
    go_ret
    exact ⟨by rw [HD2.out, ← hz]; rfl, HB.out⟩
end Go.Proofs.Ytgolodpihmdmoaa
