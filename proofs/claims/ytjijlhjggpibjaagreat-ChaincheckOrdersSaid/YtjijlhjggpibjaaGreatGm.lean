/-
  Chapter 55: small functions of the references: Minus, Subset, read, update, before, shows, same.
-/
import Derived.Test.YtjijlhjggpibjaaGreatGj
namespace Go.Proofs.YtjijlhjggpibjaaGreat
open Go.RowKit

def outs (xs ys : List Str) (k : Nat) : List Str := (xs.take k).filter fun s => !decide (s ∈ ys)

theorem outs_old {xs ys : List Str} {k : Nat} (h : k < xs.length) (hm : decide (xs[k] ∈ ys) = true) : outs xs ys (k + 1) = outs xs ys k := by
  unfold outs
  rw [List.take_succ_eq_append_getElem h, List.filter_append]
  simp [of_decide_eq_true hm]
theorem outs_new {xs ys : List Str} {k : Nat} (h : k < xs.length) (hm : decide (xs[k] ∈ ys) = false) : outs xs ys (k + 1) = outs xs ys k ++ [xs[k]] := by
  unfold outs
  rw [List.take_succ_eq_append_getElem h, List.filter_append]
  simp [of_decide_eq_false hm]
theorem outs_len (xs ys : List Str) (k : Nat) : (outs xs ys k).length ≤ xs.length := by
  unfold outs
  exact Nat.le_trans (List.length_filter_le _ _) (by simp; omega)

set_option maxHeartbeats 2000000 in
theorem rminus_any (v u : Value) (xs ys : List Str) (w : World) (hr : Reads vs w v xs) (hq : Reads vs w u ys) (hn : xs.length ≤ 1000000) :
    Calls Tryz.prog 76 #[v, u] w fun e w' => ∃ v', e = .returned v' ∧ Reads vs w' v' (ofL (outs xs ys xs.length)) ∧ Below w.heap.size w w' := by
  obtain ⟨i0, hinf, hz0, hz1, hz2⟩ := info_parts Tryz.infoStr
  have HI := Lib.hid (And.intro hinf (And.intro hz0 (And.intro hz1 hz2)))
  clear hinf hz0 hz1 hz2
  have HQ := Lib.hid hq
  clear hq
  obtain ⟨ao, cap, rfl, hl, hm, hno, hx⟩ := hr
  unfold maxLen at hm
  have HXX := Lib.hid hx
  clear hx hno
  go_enter Tryz.func76, Tryz.ntmps76
  go_wp2
  go_loopg [5, 6] (xs.length) (fun m o i wr => ∃ k : Nat, m + k = xs.length ∧ i = .int .i64 k ∧ wr.ownsRow w.heap.size 9 1 o (outs xs ys k).length ((outs xs ys k).map vs) ∧ Below w.heap.size w wr)
  case atStart =>
    refine ⟨0, by omega, rfl, ?_, (Below.refl _ _).alloc (Nat.le_refl _) _⟩
    exact World.ownsRow_made w #[] 0 (Nat.le_refl _) (Nat.zero_le _) rfl
  case round =>
    obtain ⟨k, hmk, rfl, hown, hbel⟩ := hrel
    have HM := Lib.hid hmk
    have hk : k ≤ xs.length := by omega
    have HO := Lib.hid (And.intro hown hbel)
    clear hmk hown hbel
    by_cases hlt : k < xs.length
    · obtain ⟨b, off, rfl, hb, hc⟩ := HXX.out (by intro e; subst e; simp at hlt)
      have hcell : wr.cell? ⟨b, off + k, none⟩ = some (.string (toB xs[k])) := (HO.out.2.cell hb).trans (hc k hlt)
      clear hc
      have hh := rhas_any u ys xs[k] wr (HQ.out.keep HO.out.2)
      by_cases hmem : decide (xs[k] ∈ ys) = true
      · rw [hmem] at hh
        have HH := Lib.hid hh
        have HE := Lib.hid (outs_old hlt hmem)
        clear hh hmem
        go_wp2_with fail
        refine HH.out.mono ?_
        rintro e w1 ⟨rfl, rfl⟩
        go_wp2
        go_roundg (xs.length - (k + 1))
        case measure => have := HM.out; omega
        case rel => exact ⟨k + 1, by omega, by go_num, by rw [HE.out]; exact HO.out.1, HO.out.2⟩
      · have hmem := Bool.eq_false_iff.2 hmem
        rw [hmem] at hh
        have HH := Lib.hid hh
        have HE := Lib.hid (outs_new hlt hmem)
        have hol := outs_len xs ys k
        clear hh hmem
        generalize outs xs ys k = out at *
        generalize xs[k] = x at *
        go_wp2_with fail
        refine HH.out.mono ?_
        rintro e w1 ⟨rfl, rfl⟩
        go_wp2_with (at_builtin; refine wpList_append_own _ rfl _ _ 33 rfl w.heap.size 9 i0 (.string ⟨#[]⟩) 1 16 Tryz.underlying33 HI.out.1 HI.out.2.1 HI.out.2.2.1 HI.out.2.2.2 rfl (by decide) _ _ _ rfl (by exact HO.out.1.alloc _) ⟨_, 0, none⟩ 1 1 [.string (toB x)] rfl rfl ?q1 ?q2 ?q3 ?q4 ?q5 ?_)
        case q1 => exact cell_one_new _ _ _
        case q2 => intro u hu; simp at hu; subst hu; rfl
        case q3 => unfold maxLen; omega
        case q4 => omega
        case q5 => have := HO.out.2.size; simp; omega
        intro v3 w3 hown3 hgr3 _
        have H3 := Lib.hid (append_keep HO.out.1 HO.out.2 (by exact hgr3) hown3)
        clear hown3 hgr3
        go_wp2
        go_roundg (xs.length - (k + 1))
        case measure => have := HM.out; omega
        case rel => exact ⟨k + 1, by omega, by go_num, by rw [HE.out]; exact H3.out.1, H3.out.2⟩
    · have hkn : k = xs.length := by omega
      subst hkn
      go_wp2_with fail
      refine (rof_any _ (outs xs ys xs.length) _ (Reads.of_owns HO.out.1) (by have := outs_len xs ys xs.length; omega)).mono ?_
      rintro e w2 ⟨v2, rfl, ho2, hb2⟩
      have H2 := Lib.hid (And.intro (Reads.of_owns ho2) (HO.out.2.trans (hb2.mono HO.out.2.size)))
      clear ho2 hb2
      go_wp2
      go_ret
      exact ⟨_, rfl, H2.out.1, H2.out.2⟩

theorem outs_nil (xs ys : List Str) : (ofL (outs xs ys xs.length)).length = 0 ↔ ∀ s ∈ xs, s ∈ ys := by
  rw [List.length_eq_zero_iff, List.eq_nil_iff_forall_not_mem]
  constructor
  · intro h s hs
    have := h s
    rw [mem_ofL] at this
    simp only [outs, List.take_length, List.mem_filter, not_and] at this
    simpa using this hs
  · intro h s hs
    rw [mem_ofL] at hs
    simp only [outs, List.take_length, List.mem_filter] at hs
    simp [h s hs.1] at hs


theorem rsub_any (v u : Value) (xs ys : List Str) (w : World) (hr : Reads vs w v xs) (hq : Reads vs w u ys) (hn : xs.length ≤ 1000000) :
    Calls Tryz.prog 51 #[v, u] w (BoolMade w (subB xs ys)) := by
  have HM := Lib.hid (rminus_any v u xs ys w hr hq hn)
  have HN := Lib.hid (outs_nil xs ys)
  obtain ⟨ao, cap, rfl, hl, hm, -, -⟩ := hr
  obtain ⟨ao2, cap2, rfl, hl2, hm2, -, -⟩ := hq
  clear hl hm hl2 hm2
  go_enter Tryz.func51, Tryz.ntmps51
  go_wp2_with fail
  refine HM.out.mono ?_
  rintro e w1 ⟨v1, rfl, hr1, hb⟩
  have HB := Lib.hid hb
  obtain ⟨a1, c1, rfl, -, -, -, -⟩ := hr1
  clear hb HM
  have HE : Hid (subB xs ys = decide ((ofL (outs xs ys xs.length)).length = 0)) := Lib.hid (by
    unfold subB
    exact decide_eq_decide.2 HN.out.symm)
  generalize (ofL (outs xs ys xs.length)).length = n at *
  clear HN
  by_cases h0 : n = 0
  · have HZ : Hid (subB xs ys = true) := Lib.hid (by rw [HE.out, decide_eq_true h0])
    subst h0
    go_wp2
    go_ret
    exact ⟨ret_bool HZ.out.symm, HB.out⟩
  · have HZ : Hid (subB xs ys = false) := Lib.hid (by rw [HE.out, decide_eq_false h0])
    have e1 : ((n : Int) == 0) = false := beq_eq_false_iff_ne.2 (by omega)
    clear h0
    go_wp2
    go_ret
    exact ⟨ret_bool HZ.out.symm, HB.out⟩
/-- same: both ways. -/
def sameS (xs ys : List Str) : Bool := subB xs ys && subB ys xs
theorem rsame_any (v u : Value) (xs ys : List Str) (w : World) (hr : Reads vs w v xs) (hq : Reads vs w u ys) (hn : xs.length ≤ 1000000) (hn2 : ys.length ≤ 1000000) :
    Calls Tryz.prog 48 #[v, u] w (BoolMade w (sameS xs ys)) := by
  have HR := Lib.hid hr
  have HQ := Lib.hid hq
  clear hr hq
  go_enter Tryz.func48, Tryz.ntmps48
  go_wp2_with fail
  refine (rsub_any _ _ xs ys _ HR.out HQ.out hn).mono ?_
  rintro e w1 ⟨rfl, hb⟩
  replace HR := Lib.hid (HR.out.keep hb)
  replace HQ := Lib.hid (HQ.out.keep hb)
  have HB := Lib.hid hb
  clear hb
  cases h1 : subB xs ys with
  | false =>
    go_wp2
    go_ret
    exact ⟨ret_bool (by unfold sameS; rw [h1]; rfl), HB.out⟩
  | true =>
    go_wp2_with fail
    refine (rsub_any _ _ ys xs _ HQ.out HR.out hn2).mono ?_
    rintro e w2 ⟨rfl, hb⟩
    replace HB := Lib.hid (HB.out.trans (hb.mono HB.out.size))
    clear hb
    cases h2 : subB ys xs with
    | false =>
      go_wp2
      go_ret
      exact ⟨ret_bool (by unfold sameS; rw [h1, h2]; rfl), HB.out⟩
    | true =>
      go_wp2
      go_ret
      exact ⟨ret_bool (by unfold sameS; rw [h1, h2]; rfl), HB.out⟩
def rdO (o : Opn) : Bool := decide (kindO o = 2 ∧ 0 ≤ endO o)
def upO (o : Opn) : Bool := decide (kindO o = 1)
def befO (a b : Opn) : Bool := decide (0 ≤ endO a ∧ endO a < begO b)
def shO (r u : Opn) : Bool := subB (addO u) (seeO r)
theorem rread_any (v : Value) (o : Opn) (w : World) (ho : OpAt w v o) : Calls Tryz.prog 47 #[v] w (BoolMade w (rdO o)) := by
  obtain ⟨va, vz, rfl, r1, r2⟩ := ho
  obtain ⟨x1, y1, z1, rfl⟩ := Slc.of_reads r1
  obtain ⟨x2, y2, z2, rfl⟩ := Slc.of_reads r2
  clear r1 r2
  unfold opV
  have hp : rdO o = decide (kindO o = 2 ∧ 0 ≤ endO o) := rfl
  generalize rdO o = p at *
  generalize kindO o = k at *
  generalize endO o = e at *
  by_cases h1 : k = 2
  · have e1 := beq_t h1
    by_cases h2 : 0 ≤ e
    · have hr : Hid (p = true) := Lib.hid (hp.trans (decide_eq_true ⟨h1, h2⟩))
      have e2 := decide_eq_true h2
      clear hp h1
      go_enter Tryz.func47, Tryz.ntmps47
      go_wp2
      go_ret
      exact ⟨ret_bool hr.out.symm, (Below.refl _ _).alloc (Nat.le_refl _) _⟩
    · have hr : Hid (p = false) := Lib.hid (hp.trans (decide_eq_false fun h => h2 h.2))
      have e2 := decide_eq_false h2
      clear hp h1
      go_enter Tryz.func47, Tryz.ntmps47
      go_wp2
      go_ret
      exact ⟨ret_bool hr.out.symm, (Below.refl _ _).alloc (Nat.le_refl _) _⟩
  · have e1 := beq_f h1
    have hr : Hid (p = false) := Lib.hid (hp.trans (decide_eq_false fun h => h1 h.1))
    clear hp h1
    go_enter Tryz.func47, Tryz.ntmps47
    go_wp2
    go_ret
    exact ⟨ret_bool hr.out.symm, (Below.refl _ _).alloc (Nat.le_refl _) _⟩
theorem rupdate_any (v : Value) (o : Opn) (w : World) (ho : OpAt w v o) : Calls Tryz.prog 50 #[v] w (BoolMade w (upO o)) := by
  obtain ⟨va, vz, rfl, r1, r2⟩ := ho
  obtain ⟨x1, y1, z1, rfl⟩ := Slc.of_reads r1
  obtain ⟨x2, y2, z2, rfl⟩ := Slc.of_reads r2
  clear r1 r2
  unfold opV
  have hp : upO o = decide (kindO o = 1) := rfl
  generalize upO o = p at *
  generalize kindO o = k at *
  by_cases h1 : k = 1
  · have e1 := beq_t h1
    have hr : Hid (p = true) := Lib.hid (hp.trans (decide_eq_true h1))
    clear hp h1
    go_enter Tryz.func50, Tryz.ntmps50
    go_wp2
    go_ret
    exact ⟨ret_bool hr.out.symm, (Below.refl _ _).alloc (Nat.le_refl _) _⟩
  · have e1 := beq_f h1
    have hr : Hid (p = false) := Lib.hid (hp.trans (decide_eq_false h1))
    clear hp h1
    go_enter Tryz.func50, Tryz.ntmps50
    go_wp2
    go_ret
    exact ⟨ret_bool hr.out.symm, (Below.refl _ _).alloc (Nat.le_refl _) _⟩
theorem rbefore_any (v u : Value) (a b : Opn) (w : World) (ha : OpAt w v a) (hb : OpAt w u b) : Calls Tryz.prog 83 #[v, u] w (BoolMade w (befO a b)) := by
  obtain ⟨va, vz, rfl, r1, r2⟩ := ha
  obtain ⟨x1, y1, z1, rfl⟩ := Slc.of_reads r1
  obtain ⟨x2, y2, z2, rfl⟩ := Slc.of_reads r2
  clear r1 r2
  obtain ⟨va, vz, rfl, r1, r2⟩ := hb
  obtain ⟨x3, y3, z3, rfl⟩ := Slc.of_reads r1
  obtain ⟨x4, y4, z4, rfl⟩ := Slc.of_reads r2
  clear r1 r2
  unfold opV
  have hp : befO a b = decide (0 ≤ endO a ∧ endO a < begO b) := rfl
  generalize befO a b = p at *
  generalize endO a = e at *
  generalize begO b = g at *
  by_cases h1 : 0 ≤ e
  · have e1 := decide_eq_true h1
    by_cases h2 : e < g
    · have hr : Hid (p = true) := Lib.hid (hp.trans (decide_eq_true ⟨h1, h2⟩))
      have e2 := decide_eq_true h2
      clear hp
      go_enter Tryz.func83, Tryz.ntmps83
      go_wp2
      go_ret
      exact ⟨ret_bool hr.out.symm, below_two _ _ _⟩
    · have hr : Hid (p = false) := Lib.hid (hp.trans (decide_eq_false fun h => h2 h.2))
      have e2 := decide_eq_false h2
      clear hp
      go_enter Tryz.func83, Tryz.ntmps83
      go_wp2
      go_ret
      exact ⟨ret_bool hr.out.symm, below_two _ _ _⟩
  · have e1 := decide_eq_false h1
    have hr : Hid (p = false) := Lib.hid (hp.trans (decide_eq_false fun h => h1 h.1))
    clear hp
    go_enter Tryz.func83, Tryz.ntmps83
    go_wp2
    go_ret
    exact ⟨ret_bool hr.out.symm, below_two _ _ _⟩
theorem rshows_any (v u : Value) (a b : Opn) (w : World) (ha : OpAt w v a) (hb : OpAt w u b) (hn : (addO b).length ≤ 1000000) : Calls Tryz.prog 82 #[v, u] w (BoolMade w (shO a b)) := by
  obtain ⟨va, vz, rfl, r1, r2⟩ := ha
  obtain ⟨x1, y1, z1, rfl⟩ := Slc.of_reads r1
  obtain ⟨x2, y2, z2, rfl⟩ := Slc.of_reads r2
  have HA := Lib.hid r2
  clear r1 r2
  obtain ⟨va, vz, rfl, r1, r2⟩ := hb
  obtain ⟨x3, y3, z3, rfl⟩ := Slc.of_reads r1
  obtain ⟨x4, y4, z4, rfl⟩ := Slc.of_reads r2
  have HB := Lib.hid r1
  clear r1 r2
  unfold opV
  have HK : Hid (∀ o1 o2, Below w.heap.size w ((w.alloc o1).alloc o2)) := Lib.hid fun o1 o2 => below_two _ _ _
  go_enter Tryz.func82, Tryz.ntmps82
  go_wp2_with fail
  refine (rsub_any _ _ (addO b) (seeO a) _ (HB.out.keep (HK.out _ _)) (HA.out.keep (HK.out _ _)) hn).mono ?_
  rintro e w1 ⟨rfl, hb⟩
  have HX := Lib.hid ((HK.out _ _).trans (hb.mono (HK.out _ _).size))
  clear hb
  go_wp2
  go_ret
  exact ⟨rfl, HX.out⟩
end Go.Proofs.YtjijlhjggpibjaaGreat
