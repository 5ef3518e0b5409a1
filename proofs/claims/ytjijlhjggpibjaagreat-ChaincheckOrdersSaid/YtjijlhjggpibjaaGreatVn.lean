/-
  Chapter 55: the conditions of Check, and the first pair for which one holds.
  Chapter 55: the first pair of two lists for which a condition holds.
-/
import Derived.Test.YtjijlhjggpibjaaGreatVm
import Derived.Laws.EntriesVeiled
namespace Go.Proofs.YtjijlhjggpibjaaGreat
open Go.RowKit Go.Maps

/-- A cell that holds the view. -/
def VCell (w : World) (gp g : Nat) : Prop := Blk w gp 40 #[.pointer (some ⟨g + 2, 0, none⟩)]
theorem VCell.on {w w' : World} {gp g : Nat} (h : VCell w gp g) (hb : Below w.heap.size w w') : VCell w' gp g := Blk.on h hb
theorem VCell.cell {w : World} {gp g : Nat} (h : VCell w gp g) : w.cell? ⟨gp, 0, none⟩ = some (.pointer (some ⟨g + 2, 0, none⟩)) := Blk.cell h 0
def tornB (h : List Opn) (r u : Nat) : Bool := decide (0 < cntS h r u) && !decide (ShowI h r u)
def apartB (h : List Opn) (r q : Nat) : Bool := decide (r < q) && !decide (WithI h r q) && !decide (WithI h q r)
def earlyB (h : List Opn) (r u : Nat) : Bool := prI h r u && decide (ShowI h r u)
def lateB (h : List Opn) (u r : Nat) : Bool := prI h u r && !decide (ShowI h r u)
def backB (h : List Opn) (r q : Nat) : Bool := prI h r q && !decide (WithI h r q)
def swapB (h : List Opn) (u w r : Nat) : Bool := prI h u w && decide (ShowI h r w) && !decide (ShowI h r u)

set_option maxRecDepth 100000 in
set_option maxHeartbeats 4000000 in
theorem clo2_any (gp g : Nat) (hv : Value) (h : List Opn) (i k : Nat) (W : World) (hc : VCell W gp g) (hvw : ViewR W g hv h) (hr : ReadsO W hv h) (hs : SmallH h) (hil : i < h.length) (hkl : k < h.length) (rr : RdI h i) :
    Calls Tryz.prog 34 #[.int .i64 (i : Int), .int .i64 (k : Int), .pointer (some ⟨gp, 0, none⟩)] W (BoolMade W (tornB h i k)) := by
  have HC := Lib.hid hc
  have HV := Lib.hid hvw
  have HR := Lib.hid hr
  have HS := Lib.hid hs
  have HIL := Lib.hid (And.intro hil trivial)
  have HKL := Lib.hid (And.intro hkl trivial)
  have KW := Lib.hid (Below.refl W.heap.size W)
  have c0 := hc.cell
  have hsz := hs.1
  have hib : i ≤ 1000 := by omega
  have hkb : k ≤ 1000 := by omega
  clear hc hvw hr hs hil hkl
  go_enter Tryz.func34, Tryz.ntmps34
  go_wp2_with fail
  refine (shown_any g hv h i k _ HV.out HR.out HS.out HIL.out.1 HKL.out.1 rr).mono ?_
  rintro e w1 ⟨rfl, hw1⟩
  subst hw1
  by_cases h1 : 0 < cntS h i k
  · have HTB : Hid (tornB h i k = !decide (ShowI h i k)) := Lib.hid (by unfold tornB; rw [decide_eq_true h1, Bool.true_and])
    have hd := decide_eq_true h1
    have h1i : (0 : Int) < ((cntS h i k : Nat) : Int) := by omega
    clear h1
    generalize cntS h i k = n at *
    go_wp2_with fail
    refine (shows_any g hv h i k _ HV.out HR.out HS.out HIL.out.1 HKL.out.1 rr).mono ?_
    rintro e w1 ⟨rfl, hb⟩
    replace HC := Lib.hid (HC.out.on hb)
    replace HV := Lib.hid (HV.out.on hb)
    replace HR := Lib.hid (HR.out.on hb)
    replace KW := Lib.hid (KW.out.trans (hb.mono KW.out.size))
    have c0 := HC.out.cell
    clear hb
    cases h2 : decide (ShowI h i k) with
    | false =>
      go_wp2
      go_ret
      exact ⟨ret_bool (by rw [HTB.out, h2]; rfl), KW.out⟩
    | true =>
      go_wp2
      go_ret
      exact ⟨ret_bool (by rw [HTB.out, h2]; rfl), KW.out⟩
  · have hz : cntS h i k = 0 := by omega
    have HE : Hid (tornB h i k = false) := Lib.hid (by unfold tornB; rw [decide_eq_false h1]; rfl)
    rw [hz]
    clear h1 hz
    go_wp2
    go_ret
    exact ⟨ret_bool HE.out.symm, KW.out⟩
set_option maxRecDepth 100000 in
set_option maxHeartbeats 4000000 in
theorem clo3_any (gp g : Nat) (hv : Value) (h : List Opn) (i k : Nat) (W : World) (hc : VCell W gp g) (hvw : ViewR W g hv h) (hr : ReadsO W hv h) (hs : SmallH h) (hil : i < h.length) (hkl : k < h.length) (ri : RdI h i) (rk : RdI h k) :
    Calls Tryz.prog 36 #[.int .i64 (i : Int), .int .i64 (k : Int), .pointer (some ⟨gp, 0, none⟩)] W (BoolMade W (apartB h i k)) := by
  have HC := Lib.hid hc
  have HV := Lib.hid hvw
  have HR := Lib.hid hr
  have HS := Lib.hid hs
  have HIL := Lib.hid (And.intro hil trivial)
  have HKL := Lib.hid (And.intro hkl trivial)
  have KW := Lib.hid (Below.refl W.heap.size W)
  have c0 := hc.cell
  have hsz := hs.1
  have hib : i ≤ 1000 := by omega
  have hkb : k ≤ 1000 := by omega
  clear hc hvw hr hs hil hkl
  go_enter Tryz.func36, Tryz.ntmps36
  by_cases h0 : i < k
  · have h0i : (i : Int) < (k : Int) := by omega
    go_wp2_with fail
    refine (within_any g hv h i k _ HV.out HIL.out.1 HKL.out.1 ri rk).mono ?_
    rintro e w1 ⟨rfl, hb⟩
    replace HC := Lib.hid (HC.out.on hb)
    replace HV := Lib.hid (HV.out.on hb)
    replace HR := Lib.hid (HR.out.on hb)
    replace KW := Lib.hid (KW.out.trans (hb.mono KW.out.size))
    have c0 := HC.out.cell
    clear hb
    cases h1 : decide (WithI h i k) with
    | true =>
      go_wp2
      go_ret
      exact ⟨ret_bool (by unfold apartB; simp [h1]), KW.out⟩
    | false =>
      go_wp2_with fail
      refine (within_any g hv h k i _ HV.out HKL.out.1 HIL.out.1 rk ri).mono ?_
      rintro e w1 ⟨rfl, hb⟩
      replace HC := Lib.hid (HC.out.on hb)
      replace HV := Lib.hid (HV.out.on hb)
      replace HR := Lib.hid (HR.out.on hb)
      replace KW := Lib.hid (KW.out.trans (hb.mono KW.out.size))
      have c0 := HC.out.cell
      clear hb
      cases h2 : decide (WithI h k i) with
      | false =>
        go_wp2
        go_ret
        exact ⟨ret_bool (by unfold apartB; rw [h1, h2, decide_eq_true h0]; rfl), KW.out⟩
      | true =>
        go_wp2
        go_ret
        exact ⟨ret_bool (by unfold apartB; rw [h1, h2, decide_eq_true h0]; rfl), KW.out⟩
  · have h0i : ¬ (i : Int) < (k : Int) := by omega
    have HE : Hid (apartB h i k = false) := Lib.hid (by unfold apartB; rw [decide_eq_false h0]; rfl)
    go_wp2
    go_ret
    exact ⟨ret_bool HE.out.symm, KW.out⟩
set_option maxRecDepth 100000 in
set_option maxHeartbeats 4000000 in
theorem clo4_any (gp g : Nat) (hv : Value) (h : List Opn) (i k : Nat) (W : World) (hc : VCell W gp g) (hvw : ViewR W g hv h) (hr : ReadsO W hv h) (hs : SmallH h) (hil : i < h.length) (hkl : k < h.length) (rr : RdI h i) :
    Calls Tryz.prog 38 #[.int .i64 (i : Int), .int .i64 (k : Int), .pointer (some ⟨gp, 0, none⟩)] W (BoolMade W (earlyB h i k)) := by
  have HC := Lib.hid hc
  have HV := Lib.hid hvw
  have HR := Lib.hid hr
  have HS := Lib.hid hs
  have HIL := Lib.hid (And.intro hil trivial)
  have HKL := Lib.hid (And.intro hkl trivial)
  have KW := Lib.hid (Below.refl W.heap.size W)
  have c0 := hc.cell
  have hsz := hs.1
  have hib : i ≤ 1000 := by omega
  have hkb : k ≤ 1000 := by omega
  clear hc hvw hr hs hil hkl
  go_enter Tryz.func38, Tryz.ntmps38
  go_wp2_with fail
  refine (vbefore_any g hv h i k _ HV.out HR.out HIL.out.1 HKL.out.1).mono ?_
  rintro e w1 ⟨rfl, hb⟩
  replace HC := Lib.hid (HC.out.on hb)
  replace HV := Lib.hid (HV.out.on hb)
  replace HR := Lib.hid (HR.out.on hb)
  replace KW := Lib.hid (KW.out.trans (hb.mono KW.out.size))
  have c0 := HC.out.cell
  clear hb
  cases h1 : prI h i k with
  | false =>
    go_wp2
    go_ret
    exact ⟨ret_bool (by unfold earlyB; simp [h1]), KW.out⟩
  | true =>
    go_wp2_with fail
    refine (shows_any g hv h i k _ HV.out HR.out HS.out HIL.out.1 HKL.out.1 rr).mono ?_
    rintro e w1 ⟨rfl, hb⟩
    replace HC := Lib.hid (HC.out.on hb)
    replace HV := Lib.hid (HV.out.on hb)
    replace HR := Lib.hid (HR.out.on hb)
    replace KW := Lib.hid (KW.out.trans (hb.mono KW.out.size))
    have c0 := HC.out.cell
    clear hb
    cases h2 : decide (ShowI h i k) with
    | false =>
      go_wp2
      go_ret
      exact ⟨ret_bool (by unfold earlyB; simp [h1, h2]), KW.out⟩
    | true =>
      go_wp2
      go_ret
      exact ⟨ret_bool (by unfold earlyB; simp [h1, h2]), KW.out⟩
set_option maxRecDepth 100000 in
set_option maxHeartbeats 4000000 in
theorem clo5_any (gp g : Nat) (hv : Value) (h : List Opn) (i k : Nat) (W : World) (hc : VCell W gp g) (hvw : ViewR W g hv h) (hr : ReadsO W hv h) (hs : SmallH h) (hil : i < h.length) (hkl : k < h.length) (rr : RdI h k) :
    Calls Tryz.prog 40 #[.int .i64 (i : Int), .int .i64 (k : Int), .pointer (some ⟨gp, 0, none⟩)] W (BoolMade W (lateB h i k)) := by
  have HC := Lib.hid hc
  have HV := Lib.hid hvw
  have HR := Lib.hid hr
  have HS := Lib.hid hs
  have HIL := Lib.hid (And.intro hil trivial)
  have HKL := Lib.hid (And.intro hkl trivial)
  have KW := Lib.hid (Below.refl W.heap.size W)
  have c0 := hc.cell
  have hsz := hs.1
  have hib : i ≤ 1000 := by omega
  have hkb : k ≤ 1000 := by omega
  clear hc hvw hr hs hil hkl
  go_enter Tryz.func40, Tryz.ntmps40
  go_wp2_with fail
  refine (vbefore_any g hv h i k _ HV.out HR.out HIL.out.1 HKL.out.1).mono ?_
  rintro e w1 ⟨rfl, hb⟩
  replace HC := Lib.hid (HC.out.on hb)
  replace HV := Lib.hid (HV.out.on hb)
  replace HR := Lib.hid (HR.out.on hb)
  replace KW := Lib.hid (KW.out.trans (hb.mono KW.out.size))
  have c0 := HC.out.cell
  clear hb
  cases h1 : prI h i k with
  | false =>
    go_wp2
    go_ret
    exact ⟨ret_bool (by unfold lateB; simp [h1]), KW.out⟩
  | true =>
    go_wp2_with fail
    refine (shows_any g hv h k i _ HV.out HR.out HS.out HKL.out.1 HIL.out.1 rr).mono ?_
    rintro e w1 ⟨rfl, hb⟩
    replace HC := Lib.hid (HC.out.on hb)
    replace HV := Lib.hid (HV.out.on hb)
    replace HR := Lib.hid (HR.out.on hb)
    replace KW := Lib.hid (KW.out.trans (hb.mono KW.out.size))
    have c0 := HC.out.cell
    clear hb
    cases h2 : decide (ShowI h k i) with
    | false =>
      go_wp2
      go_ret
      exact ⟨ret_bool (by unfold lateB; simp [h1, h2]), KW.out⟩
    | true =>
      go_wp2
      go_ret
      exact ⟨ret_bool (by unfold lateB; simp [h1, h2]), KW.out⟩
set_option maxRecDepth 100000 in
set_option maxHeartbeats 4000000 in
theorem clo6_any (gp g : Nat) (hv : Value) (h : List Opn) (i k : Nat) (W : World) (hc : VCell W gp g) (hvw : ViewR W g hv h) (hr : ReadsO W hv h) (hs : SmallH h) (hil : i < h.length) (hkl : k < h.length) (ri : RdI h i) (rk : RdI h k) :
    Calls Tryz.prog 41 #[.int .i64 (i : Int), .int .i64 (k : Int), .pointer (some ⟨gp, 0, none⟩)] W (BoolMade W (backB h i k)) := by
  have HC := Lib.hid hc
  have HV := Lib.hid hvw
  have HR := Lib.hid hr
  have HS := Lib.hid hs
  have HIL := Lib.hid (And.intro hil trivial)
  have HKL := Lib.hid (And.intro hkl trivial)
  have KW := Lib.hid (Below.refl W.heap.size W)
  have c0 := hc.cell
  have hsz := hs.1
  have hib : i ≤ 1000 := by omega
  have hkb : k ≤ 1000 := by omega
  clear hc hvw hr hs hil hkl
  go_enter Tryz.func41, Tryz.ntmps41
  go_wp2_with fail
  refine (vbefore_any g hv h i k _ HV.out HR.out HIL.out.1 HKL.out.1).mono ?_
  rintro e w1 ⟨rfl, hb⟩
  replace HC := Lib.hid (HC.out.on hb)
  replace HV := Lib.hid (HV.out.on hb)
  replace HR := Lib.hid (HR.out.on hb)
  replace KW := Lib.hid (KW.out.trans (hb.mono KW.out.size))
  have c0 := HC.out.cell
  clear hb
  cases h1 : prI h i k with
  | false =>
    go_wp2
    go_ret
    exact ⟨ret_bool (by unfold backB; simp [h1]), KW.out⟩
  | true =>
    go_wp2_with fail
    refine (within_any g hv h i k _ HV.out HIL.out.1 HKL.out.1 ri rk).mono ?_
    rintro e w1 ⟨rfl, hb⟩
    replace HC := Lib.hid (HC.out.on hb)
    replace HV := Lib.hid (HV.out.on hb)
    replace HR := Lib.hid (HR.out.on hb)
    replace KW := Lib.hid (KW.out.trans (hb.mono KW.out.size))
    have c0 := HC.out.cell
    clear hb
    cases h2 : decide (WithI h i k) with
    | false =>
      go_wp2
      go_ret
      exact ⟨ret_bool (by unfold backB; simp [h1, h2]), KW.out⟩
    | true =>
      go_wp2
      go_ret
      exact ⟨ret_bool (by unfold backB; simp [h1, h2]), KW.out⟩
end Go.Proofs.YtjijlhjggpibjaaGreat
namespace Go.Proofs.YtjijlhjggpibjaaGreat
open Go.RowKit Go.Maps

def pairF (A B : List Nat) (P : Nat → Nat → Bool) : Option (Nat × Nat) := A.findSome? fun i => (B.find? (P i)).map fun k => (i, k)
theorem pair_none {A B : List Nat} {P : Nat → Nat → Bool} : pairF A B P = none ↔ ∀ x ∈ A, ∀ y ∈ B, P x y = false := by
  unfold pairF
  rw [List.findSome?_eq_none_iff]
  constructor
  · intro h x hx y hy
    have h1 := h x hx
    rw [Option.map_eq_none_iff, List.find?_eq_none] at h1
    exact Bool.eq_false_iff.2 (h1 y hy)
  · intro h x hx
    rw [Option.map_eq_none_iff, List.find?_eq_none]
    intro y hy
    rw [h x hx y hy]; exact Bool.false_ne_true
theorem pair_some {A B : List Nat} {P : Nat → Nat → Bool} {a b : Nat} (ha : a < A.length) (hb : b < B.length) (h1 : ∀ a' (h' : a' < A.length), a' < a → ∀ y ∈ B, P A[a'] y = false) (h2 : ∀ b' (h' : b' < B.length), b' < b → P A[a] B[b'] = false) (h3 : P A[a] B[b] = true) : pairF A B P = some (A[a], B[b]) := by
  have hA : A = A.take a ++ A[a] :: A.drop (a + 1) := by rw [← List.drop_eq_getElem_cons ha, List.take_append_drop]
  have hpre : (A.take a).findSome? (fun i => (B.find? (P i)).map fun k => (i, k)) = none := by
    rw [List.findSome?_eq_none_iff]
    intro x hx
    obtain ⟨j, hj, rfl⟩ := List.mem_take_iff_getElem.1 hx
    rw [Option.map_eq_none_iff, List.find?_eq_none]
    intro y hy
    rw [h1 j (by omega) (by omega) y hy]; exact Bool.false_ne_true
  have hf : B.find? (P A[a]) = some B[b] := List.find?_eq_some_iff_getElem.2 ⟨h3, b, hb, rfl, fun j hj => by rw [h2 j (by omega) hj]; rfl⟩
  unfold pairF
  generalize A[a] = x at *
  rw [hA, List.findSome?_append, hpre, List.findSome?_cons, hf]
  rfl
theorem pair_spec {A B : List Nat} {P : Nat → Nat → Bool} {i k : Nat} (h : pairF A B P = some (i, k)) : i ∈ A ∧ k ∈ B ∧ P i k = true := by
  unfold pairF at h
  obtain ⟨x, hx, hf⟩ := List.exists_of_findSome?_eq_some h
  rw [Option.map_eq_some_iff] at hf
  obtain ⟨y, hy, he⟩ := hf
  injection he with e1 e2
  subst e1 e2
  exact ⟨hx, List.mem_of_find?_eq_some hy, List.find?_some hy⟩
def PairsMade (W : World) (o : Option (Nat × Nat)) (e : Ending) (w' : World) : Prop :=
  ((o = none ∧ e = .returned (.slice none 0 0)) ∨ ∃ i k g, o = some (i, k) ∧ e = .returned (.slice (some ⟨g, 0, none⟩) 2 2) ∧ W.heap.size ≤ g ∧ Blk w' g 3 #[.int .i64 ((i : Nat) : Int), .int .i64 ((k : Nat) : Int)]) ∧ Below W.heap.size W w'
theorem nn_at {l : List Nat} {k : Nat} (hk : k < l.length) : ∃ h' : k < (intsNN l).length, (intsNN l)[k] = ((l[k] : Nat) : Int) := by
  have h' : k < (intsNN l).length := by unfold intsNN; rw [List.length_map]; exact hk
  exact ⟨h', by simp [intsNN]⟩
theorem nn_len (l : List Nat) : (intsNN l).length = l.length := by unfold intsNN; rw [List.length_map]
set_option maxRecDepth 100000 in
set_option maxHeartbeats 8000000 in
theorem pairs2_any (gp : Nat) (A B : List Nat) (P : Nat → Nat → Bool) (u v : Value) (W : World) (hu : Reads vi W u (intsNN A)) (hv : Reads vi W v (intsNN B)) (hA : ∀ x ∈ A, x ≤ 1000) (hB : ∀ x ∈ B, x ≤ 1000)
    (hf : ∀ i ∈ A, ∀ k ∈ B, ∀ wq, Below W.heap.size W wq → Calls Tryz.prog 34 #[.int .i64 (i : Int), .int .i64 (k : Int), .pointer (some ⟨gp, 0, none⟩)] wq (BoolMade wq (P i k))) :
    Calls Tryz.prog 33 #[u, v, .func (.func 34) #[] #[.pointer (some ⟨gp, 0, none⟩)]] W (PairsMade W (pairF A B P)) := by
  have HU := Lib.hid hu
  have HV := Lib.hid hv
  have HF := Lib.hid hf
  obtain ⟨ua, uk, rfl, huk, hul, -, -⟩ := hu
  obtain ⟨va, vk, rfl, hvk, hvl, -, -⟩ := hv
  have eA := nn_len A
  have eB := nn_len B
  rw [eA] at huk ⊢
  rw [eB] at hvk ⊢
  clear eA eB
  unfold maxLen at hul hvl
  have HPN := Lib.hid (pair_none (A := A) (B := B) (P := P))
  have HPS := Lib.hid (fun (a b : Nat) (ha : a < A.length) (hb : b < B.length) => pair_some (P := P) ha hb)
  generalize pairF A B P = res at *
  clear hf
  go_enter Tryz.func33, Tryz.ntmps33
  go_wp2
  go_loopg [13] A.length (fun m i wr => ∃ a : Nat, m + a = A.length ∧ i = .int .i64 a ∧ (∀ a' (h' : a' < A.length), a' < a → ∀ y ∈ B, P A[a'] y = false) ∧ Below W.heap.size W wr)
  case atStart => exact ⟨0, by omega, rfl, (fun a' h' hlt => by omega), Below.refl _ _⟩
  case round =>
    obtain ⟨a, hma, rfl, hall, hbel⟩ := hrel
    have HM := Lib.hid hma
    have HALL := Lib.hid hall
    have KW := Lib.hid hbel
    have ha : a ≤ A.length := by omega
    clear hma hall hbel
    by_cases hal : a < A.length
    · obtain ⟨h', hx⟩ := nn_at hal
      obtain ⟨bo, oo, co, hv, hbo, hco⟩ := int_at HU.out h'
      rw [hx] at hco
      injection hv with e1 e2 e3
      subst e1
      have hai : (a : Int) < A.length := by omega
      have ha0 : (0 : Int) ≤ (a : Int) := by omega
      have q0 := (KW.out.cell (p := ⟨bo, oo + a, none⟩) hbo).trans hco
      unfold vi at q0
      have HAM := Lib.hid (List.getElem_mem hal)
      have HAN := Lib.hid (And.intro hal trivial)
      have hxb := hA _ HAM.out
      have HS2 := Lib.hid (fun (b : Nat) (hb : b < B.length) h2 h3 => HPS.out a b hal hb HALL.out h2 h3)
      have HNX : Hid ((∀ y ∈ B, P A[a] y = false) → ∀ a' (h' : a' < A.length), a' < a + 1 → ∀ y ∈ B, P A[a'] y = false) := Lib.hid fun h1 a' h' hlt => by
        by_cases e : a' = a
        · subst e; exact h1
        · exact HALL.out a' h' (by omega)
      have HFX := Lib.hid (HF.out A[a] HAM.out)
      clear e2 e3 hco hbo hx h'
      generalize A[a] = x at *
      obtain ⟨G2, hG2⟩ : ∃ G, G = gk := ⟨_, rfl⟩
      subst hG2
      go_wp2
      go_loopg [19] B.length (fun m i wr => ∃ b : Nat, m + b = B.length ∧ i = .int .i64 b ∧ (∀ b' (h' : b' < B.length), b' < b → P x B[b'] = false) ∧ Below W.heap.size W wr)
      case atStart => exact ⟨0, by omega, rfl, (fun b' h' hlt => by omega), KW.out⟩
      case round =>
        clear KW
        obtain ⟨b, hmb, rfl, hrow, hbel⟩ := hrel
        have HM2 := Lib.hid hmb
        have HROW := Lib.hid hrow
        have KW := Lib.hid hbel
        have hb : b ≤ B.length := by omega
        clear hmb hrow hbel q0
        by_cases hbl : b < B.length
        · obtain ⟨h', hy⟩ := nn_at hbl
          obtain ⟨bp, op, cp, hv, hbp, hcp⟩ := int_at HV.out h'
          rw [hy] at hcp
          injection hv with e1 e2 e3
          subst e1
          have hbi : (b : Int) < B.length := by omega
          have hb0 : (0 : Int) ≤ (b : Int) := by omega
          have q1 := (KW.out.cell (p := ⟨bp, op + b, none⟩) hbp).trans hcp
          unfold vi at q1
          have HBM := Lib.hid (List.getElem_mem hbl)
          have hyb := hB _ HBM.out
          have HCALL := Lib.hid (HFX.out B[b] HBM.out wr KW.out)
          have HS3 := Lib.hid (HS2.out b hbl HROW.out)
          have HRX : Hid (P x B[b] = false → ∀ b' (h' : b' < B.length), b' < b + 1 → P x B[b'] = false) := Lib.hid fun h1 b' h' hlt => by
            by_cases e : b' = b
            · subst e; exact h1
            · exact HROW.out b' h' (by omega)
          clear e2 e3 hcp hbp hy h'
          generalize B[b] = y at *
          go_wp2_with fail
          refine HCALL.out.mono ?_
          rintro e w4 ⟨rfl, hb4⟩
          have KW4 := Lib.hid (KW.out.trans (hb4.mono KW.out.size))
          clear hb4 HCALL
          cases hp : P x y with
          | true =>
            have HE : Hid (res = some (x, y)) := Lib.hid (HS3.out hp)
            clear hp
            go_wp2
            go_ret
            exact ⟨.inr ⟨x, y, w4.heap.size, HE.out, rfl, KW4.out.size, Blk.new _ _ _⟩, KW4.out.alloc KW4.out.size _⟩
          | false =>
            have HG := Lib.hid (HRX.out hp)
            clear hp
            go_wp2
            go_roundg (B.length - (b + 1))
            case measure => have := HM2.out; omega
            case rel => exact ⟨b + 1, by omega, by go_num, HG.out, KW4.out⟩
        · have HG : Hid (∀ y ∈ B, P x y = false) := Lib.hid fun y hy => by
            obtain ⟨j, hj, rfl⟩ := List.getElem_of_mem hy
            exact HROW.out j hj (by omega)
          have hbx : ¬ (b : Int) < B.length := by omega
          go_wp2
          go_roundg (A.length - (a + 1))
          case measure => have := HM.out; omega
          case rel => exact ⟨a + 1, by omega, by go_num, HNX.out HG.out, KW.out⟩
    · have HE : Hid (res = none) := Lib.hid (HPN.out.2 fun x hx y hy => by
        obtain ⟨j, hj, rfl⟩ := List.getElem_of_mem hx
        exact HALL.out j hj (by omega) y hy)
      have hax : ¬ (a : Int) < A.length := by omega
      go_wp2
      go_ret
      exact ⟨.inl ⟨HE.out, rfl⟩, KW.out⟩
set_option maxRecDepth 100000 in
set_option maxHeartbeats 8000000 in
theorem pairs3_any (gp : Nat) (A B : List Nat) (P : Nat → Nat → Bool) (u v : Value) (W : World) (hu : Reads vi W u (intsNN A)) (hv : Reads vi W v (intsNN B)) (hA : ∀ x ∈ A, x ≤ 1000) (hB : ∀ x ∈ B, x ≤ 1000)
    (hf : ∀ i ∈ A, ∀ k ∈ B, ∀ wq, Below W.heap.size W wq → Calls Tryz.prog 36 #[.int .i64 (i : Int), .int .i64 (k : Int), .pointer (some ⟨gp, 0, none⟩)] wq (BoolMade wq (P i k))) :
    Calls Tryz.prog 33 #[u, v, .func (.func 36) #[] #[.pointer (some ⟨gp, 0, none⟩)]] W (PairsMade W (pairF A B P)) := by
  have HU := Lib.hid hu
  have HV := Lib.hid hv
  have HF := Lib.hid hf
  obtain ⟨ua, uk, rfl, huk, hul, -, -⟩ := hu
  obtain ⟨va, vk, rfl, hvk, hvl, -, -⟩ := hv
  have eA := nn_len A
  have eB := nn_len B
  rw [eA] at huk ⊢
  rw [eB] at hvk ⊢
  clear eA eB
  unfold maxLen at hul hvl
  have HPN := Lib.hid (pair_none (A := A) (B := B) (P := P))
  have HPS := Lib.hid (fun (a b : Nat) (ha : a < A.length) (hb : b < B.length) => pair_some (P := P) ha hb)
  generalize pairF A B P = res at *
  clear hf
  go_enter Tryz.func33, Tryz.ntmps33
  go_wp2
  go_loopg [13] A.length (fun m i wr => ∃ a : Nat, m + a = A.length ∧ i = .int .i64 a ∧ (∀ a' (h' : a' < A.length), a' < a → ∀ y ∈ B, P A[a'] y = false) ∧ Below W.heap.size W wr)
  case atStart => exact ⟨0, by omega, rfl, (fun a' h' hlt => by omega), Below.refl _ _⟩
  case round =>
    obtain ⟨a, hma, rfl, hall, hbel⟩ := hrel
    have HM := Lib.hid hma
    have HALL := Lib.hid hall
    have KW := Lib.hid hbel
    have ha : a ≤ A.length := by omega
    clear hma hall hbel
    by_cases hal : a < A.length
    · obtain ⟨h', hx⟩ := nn_at hal
      obtain ⟨bo, oo, co, hv, hbo, hco⟩ := int_at HU.out h'
      rw [hx] at hco
      injection hv with e1 e2 e3
      subst e1
      have hai : (a : Int) < A.length := by omega
      have ha0 : (0 : Int) ≤ (a : Int) := by omega
      have q0 := (KW.out.cell (p := ⟨bo, oo + a, none⟩) hbo).trans hco
      unfold vi at q0
      have HAM := Lib.hid (List.getElem_mem hal)
      have HAN := Lib.hid (And.intro hal trivial)
      have hxb := hA _ HAM.out
      have HS2 := Lib.hid (fun (b : Nat) (hb : b < B.length) h2 h3 => HPS.out a b hal hb HALL.out h2 h3)
      have HNX : Hid ((∀ y ∈ B, P A[a] y = false) → ∀ a' (h' : a' < A.length), a' < a + 1 → ∀ y ∈ B, P A[a'] y = false) := Lib.hid fun h1 a' h' hlt => by
        by_cases e : a' = a
        · subst e; exact h1
        · exact HALL.out a' h' (by omega)
      have HFX := Lib.hid (HF.out A[a] HAM.out)
      clear e2 e3 hco hbo hx h'
      generalize A[a] = x at *
      obtain ⟨G2, hG2⟩ : ∃ G, G = gk := ⟨_, rfl⟩
      subst hG2
      go_wp2
      go_loopg [19] B.length (fun m i wr => ∃ b : Nat, m + b = B.length ∧ i = .int .i64 b ∧ (∀ b' (h' : b' < B.length), b' < b → P x B[b'] = false) ∧ Below W.heap.size W wr)
      case atStart => exact ⟨0, by omega, rfl, (fun b' h' hlt => by omega), KW.out⟩
      case round =>
        clear KW
        obtain ⟨b, hmb, rfl, hrow, hbel⟩ := hrel
        have HM2 := Lib.hid hmb
        have HROW := Lib.hid hrow
        have KW := Lib.hid hbel
        have hb : b ≤ B.length := by omega
        clear hmb hrow hbel q0
        by_cases hbl : b < B.length
        · obtain ⟨h', hy⟩ := nn_at hbl
          obtain ⟨bp, op, cp, hv, hbp, hcp⟩ := int_at HV.out h'
          rw [hy] at hcp
          injection hv with e1 e2 e3
          subst e1
          have hbi : (b : Int) < B.length := by omega
          have hb0 : (0 : Int) ≤ (b : Int) := by omega
          have q1 := (KW.out.cell (p := ⟨bp, op + b, none⟩) hbp).trans hcp
          unfold vi at q1
          have HBM := Lib.hid (List.getElem_mem hbl)
          have hyb := hB _ HBM.out
          have HCALL := Lib.hid (HFX.out B[b] HBM.out wr KW.out)
          have HS3 := Lib.hid (HS2.out b hbl HROW.out)
          have HRX : Hid (P x B[b] = false → ∀ b' (h' : b' < B.length), b' < b + 1 → P x B[b'] = false) := Lib.hid fun h1 b' h' hlt => by
            by_cases e : b' = b
            · subst e; exact h1
            · exact HROW.out b' h' (by omega)
          clear e2 e3 hcp hbp hy h'
          generalize B[b] = y at *
          go_wp2_with fail
          refine HCALL.out.mono ?_
          rintro e w4 ⟨rfl, hb4⟩
          have KW4 := Lib.hid (KW.out.trans (hb4.mono KW.out.size))
          clear hb4 HCALL
          cases hp : P x y with
          | true =>
            have HE : Hid (res = some (x, y)) := Lib.hid (HS3.out hp)
            clear hp
            go_wp2
            go_ret
            exact ⟨.inr ⟨x, y, w4.heap.size, HE.out, rfl, KW4.out.size, Blk.new _ _ _⟩, KW4.out.alloc KW4.out.size _⟩
          | false =>
            have HG := Lib.hid (HRX.out hp)
            clear hp
            go_wp2
            go_roundg (B.length - (b + 1))
            case measure => have := HM2.out; omega
            case rel => exact ⟨b + 1, by omega, by go_num, HG.out, KW4.out⟩
        · have HG : Hid (∀ y ∈ B, P x y = false) := Lib.hid fun y hy => by
            obtain ⟨j, hj, rfl⟩ := List.getElem_of_mem hy
            exact HROW.out j hj (by omega)
          have hbx : ¬ (b : Int) < B.length := by omega
          go_wp2
          go_roundg (A.length - (a + 1))
          case measure => have := HM.out; omega
          case rel => exact ⟨a + 1, by omega, by go_num, HNX.out HG.out, KW.out⟩
    · have HE : Hid (res = none) := Lib.hid (HPN.out.2 fun x hx y hy => by
        obtain ⟨j, hj, rfl⟩ := List.getElem_of_mem hx
        exact HALL.out j hj (by omega) y hy)
      have hax : ¬ (a : Int) < A.length := by omega
      go_wp2
      go_ret
      exact ⟨.inl ⟨HE.out, rfl⟩, KW.out⟩
set_option maxRecDepth 100000 in
set_option maxHeartbeats 8000000 in
theorem pairs4_any (gp : Nat) (A B : List Nat) (P : Nat → Nat → Bool) (u v : Value) (W : World) (hu : Reads vi W u (intsNN A)) (hv : Reads vi W v (intsNN B)) (hA : ∀ x ∈ A, x ≤ 1000) (hB : ∀ x ∈ B, x ≤ 1000)
    (hf : ∀ i ∈ A, ∀ k ∈ B, ∀ wq, Below W.heap.size W wq → Calls Tryz.prog 38 #[.int .i64 (i : Int), .int .i64 (k : Int), .pointer (some ⟨gp, 0, none⟩)] wq (BoolMade wq (P i k))) :
    Calls Tryz.prog 33 #[u, v, .func (.func 38) #[] #[.pointer (some ⟨gp, 0, none⟩)]] W (PairsMade W (pairF A B P)) := by
  have HU := Lib.hid hu
  have HV := Lib.hid hv
  have HF := Lib.hid hf
  obtain ⟨ua, uk, rfl, huk, hul, -, -⟩ := hu
  obtain ⟨va, vk, rfl, hvk, hvl, -, -⟩ := hv
  have eA := nn_len A
  have eB := nn_len B
  rw [eA] at huk ⊢
  rw [eB] at hvk ⊢
  clear eA eB
  unfold maxLen at hul hvl
  have HPN := Lib.hid (pair_none (A := A) (B := B) (P := P))
  have HPS := Lib.hid (fun (a b : Nat) (ha : a < A.length) (hb : b < B.length) => pair_some (P := P) ha hb)
  generalize pairF A B P = res at *
  clear hf
  go_enter Tryz.func33, Tryz.ntmps33
  go_wp2
  go_loopg [13] A.length (fun m i wr => ∃ a : Nat, m + a = A.length ∧ i = .int .i64 a ∧ (∀ a' (h' : a' < A.length), a' < a → ∀ y ∈ B, P A[a'] y = false) ∧ Below W.heap.size W wr)
  case atStart => exact ⟨0, by omega, rfl, (fun a' h' hlt => by omega), Below.refl _ _⟩
  case round =>
    obtain ⟨a, hma, rfl, hall, hbel⟩ := hrel
    have HM := Lib.hid hma
    have HALL := Lib.hid hall
    have KW := Lib.hid hbel
    have ha : a ≤ A.length := by omega
    clear hma hall hbel
    by_cases hal : a < A.length
    · obtain ⟨h', hx⟩ := nn_at hal
      obtain ⟨bo, oo, co, hv, hbo, hco⟩ := int_at HU.out h'
      rw [hx] at hco
      injection hv with e1 e2 e3
      subst e1
      have hai : (a : Int) < A.length := by omega
      have ha0 : (0 : Int) ≤ (a : Int) := by omega
      have q0 := (KW.out.cell (p := ⟨bo, oo + a, none⟩) hbo).trans hco
      unfold vi at q0
      have HAM := Lib.hid (List.getElem_mem hal)
      have HAN := Lib.hid (And.intro hal trivial)
      have hxb := hA _ HAM.out
      have HS2 := Lib.hid (fun (b : Nat) (hb : b < B.length) h2 h3 => HPS.out a b hal hb HALL.out h2 h3)
      have HNX : Hid ((∀ y ∈ B, P A[a] y = false) → ∀ a' (h' : a' < A.length), a' < a + 1 → ∀ y ∈ B, P A[a'] y = false) := Lib.hid fun h1 a' h' hlt => by
        by_cases e : a' = a
        · subst e; exact h1
        · exact HALL.out a' h' (by omega)
      have HFX := Lib.hid (HF.out A[a] HAM.out)
      clear e2 e3 hco hbo hx h'
      generalize A[a] = x at *
      obtain ⟨G2, hG2⟩ : ∃ G, G = gk := ⟨_, rfl⟩
      subst hG2
      go_wp2
      go_loopg [19] B.length (fun m i wr => ∃ b : Nat, m + b = B.length ∧ i = .int .i64 b ∧ (∀ b' (h' : b' < B.length), b' < b → P x B[b'] = false) ∧ Below W.heap.size W wr)
      case atStart => exact ⟨0, by omega, rfl, (fun b' h' hlt => by omega), KW.out⟩
      case round =>
        clear KW
        obtain ⟨b, hmb, rfl, hrow, hbel⟩ := hrel
        have HM2 := Lib.hid hmb
        have HROW := Lib.hid hrow
        have KW := Lib.hid hbel
        have hb : b ≤ B.length := by omega
        clear hmb hrow hbel q0
        by_cases hbl : b < B.length
        · obtain ⟨h', hy⟩ := nn_at hbl
          obtain ⟨bp, op, cp, hv, hbp, hcp⟩ := int_at HV.out h'
          rw [hy] at hcp
          injection hv with e1 e2 e3
          subst e1
          have hbi : (b : Int) < B.length := by omega
          have hb0 : (0 : Int) ≤ (b : Int) := by omega
          have q1 := (KW.out.cell (p := ⟨bp, op + b, none⟩) hbp).trans hcp
          unfold vi at q1
          have HBM := Lib.hid (List.getElem_mem hbl)
          have hyb := hB _ HBM.out
          have HCALL := Lib.hid (HFX.out B[b] HBM.out wr KW.out)
          have HS3 := Lib.hid (HS2.out b hbl HROW.out)
          have HRX : Hid (P x B[b] = false → ∀ b' (h' : b' < B.length), b' < b + 1 → P x B[b'] = false) := Lib.hid fun h1 b' h' hlt => by
            by_cases e : b' = b
            · subst e; exact h1
            · exact HROW.out b' h' (by omega)
          clear e2 e3 hcp hbp hy h'
          generalize B[b] = y at *
          go_wp2_with fail
          refine HCALL.out.mono ?_
          rintro e w4 ⟨rfl, hb4⟩
          have KW4 := Lib.hid (KW.out.trans (hb4.mono KW.out.size))
          clear hb4 HCALL
          cases hp : P x y with
          | true =>
            have HE : Hid (res = some (x, y)) := Lib.hid (HS3.out hp)
            clear hp
            go_wp2
            go_ret
            exact ⟨.inr ⟨x, y, w4.heap.size, HE.out, rfl, KW4.out.size, Blk.new _ _ _⟩, KW4.out.alloc KW4.out.size _⟩
          | false =>
            have HG := Lib.hid (HRX.out hp)
            clear hp
            go_wp2
            go_roundg (B.length - (b + 1))
            case measure => have := HM2.out; omega
            case rel => exact ⟨b + 1, by omega, by go_num, HG.out, KW4.out⟩
        · have HG : Hid (∀ y ∈ B, P x y = false) := Lib.hid fun y hy => by
            obtain ⟨j, hj, rfl⟩ := List.getElem_of_mem hy
            exact HROW.out j hj (by omega)
          have hbx : ¬ (b : Int) < B.length := by omega
          go_wp2
          go_roundg (A.length - (a + 1))
          case measure => have := HM.out; omega
          case rel => exact ⟨a + 1, by omega, by go_num, HNX.out HG.out, KW.out⟩
    · have HE : Hid (res = none) := Lib.hid (HPN.out.2 fun x hx y hy => by
        obtain ⟨j, hj, rfl⟩ := List.getElem_of_mem hx
        exact HALL.out j hj (by omega) y hy)
      have hax : ¬ (a : Int) < A.length := by omega
      go_wp2
      go_ret
      exact ⟨.inl ⟨HE.out, rfl⟩, KW.out⟩
set_option maxRecDepth 100000 in
set_option maxHeartbeats 8000000 in
theorem pairs5_any (gp : Nat) (A B : List Nat) (P : Nat → Nat → Bool) (u v : Value) (W : World) (hu : Reads vi W u (intsNN A)) (hv : Reads vi W v (intsNN B)) (hA : ∀ x ∈ A, x ≤ 1000) (hB : ∀ x ∈ B, x ≤ 1000)
    (hf : ∀ i ∈ A, ∀ k ∈ B, ∀ wq, Below W.heap.size W wq → Calls Tryz.prog 40 #[.int .i64 (i : Int), .int .i64 (k : Int), .pointer (some ⟨gp, 0, none⟩)] wq (BoolMade wq (P i k))) :
    Calls Tryz.prog 33 #[u, v, .func (.func 40) #[] #[.pointer (some ⟨gp, 0, none⟩)]] W (PairsMade W (pairF A B P)) := by
  have HU := Lib.hid hu
  have HV := Lib.hid hv
  have HF := Lib.hid hf
  obtain ⟨ua, uk, rfl, huk, hul, -, -⟩ := hu
  obtain ⟨va, vk, rfl, hvk, hvl, -, -⟩ := hv
  have eA := nn_len A
  have eB := nn_len B
  rw [eA] at huk ⊢
  rw [eB] at hvk ⊢
  clear eA eB
  unfold maxLen at hul hvl
  have HPN := Lib.hid (pair_none (A := A) (B := B) (P := P))
  have HPS := Lib.hid (fun (a b : Nat) (ha : a < A.length) (hb : b < B.length) => pair_some (P := P) ha hb)
  generalize pairF A B P = res at *
  clear hf
  go_enter Tryz.func33, Tryz.ntmps33
  go_wp2
  go_loopg [13] A.length (fun m i wr => ∃ a : Nat, m + a = A.length ∧ i = .int .i64 a ∧ (∀ a' (h' : a' < A.length), a' < a → ∀ y ∈ B, P A[a'] y = false) ∧ Below W.heap.size W wr)
  case atStart => exact ⟨0, by omega, rfl, (fun a' h' hlt => by omega), Below.refl _ _⟩
  case round =>
    obtain ⟨a, hma, rfl, hall, hbel⟩ := hrel
    have HM := Lib.hid hma
    have HALL := Lib.hid hall
    have KW := Lib.hid hbel
    have ha : a ≤ A.length := by omega
    clear hma hall hbel
    by_cases hal : a < A.length
    · obtain ⟨h', hx⟩ := nn_at hal
      obtain ⟨bo, oo, co, hv, hbo, hco⟩ := int_at HU.out h'
      rw [hx] at hco
      injection hv with e1 e2 e3
      subst e1
      have hai : (a : Int) < A.length := by omega
      have ha0 : (0 : Int) ≤ (a : Int) := by omega
      have q0 := (KW.out.cell (p := ⟨bo, oo + a, none⟩) hbo).trans hco
      unfold vi at q0
      have HAM := Lib.hid (List.getElem_mem hal)
      have HAN := Lib.hid (And.intro hal trivial)
      have hxb := hA _ HAM.out
      have HS2 := Lib.hid (fun (b : Nat) (hb : b < B.length) h2 h3 => HPS.out a b hal hb HALL.out h2 h3)
      have HNX : Hid ((∀ y ∈ B, P A[a] y = false) → ∀ a' (h' : a' < A.length), a' < a + 1 → ∀ y ∈ B, P A[a'] y = false) := Lib.hid fun h1 a' h' hlt => by
        by_cases e : a' = a
        · subst e; exact h1
        · exact HALL.out a' h' (by omega)
      have HFX := Lib.hid (HF.out A[a] HAM.out)
      clear e2 e3 hco hbo hx h'
      generalize A[a] = x at *
      obtain ⟨G2, hG2⟩ : ∃ G, G = gk := ⟨_, rfl⟩
      subst hG2
      go_wp2
      go_loopg [19] B.length (fun m i wr => ∃ b : Nat, m + b = B.length ∧ i = .int .i64 b ∧ (∀ b' (h' : b' < B.length), b' < b → P x B[b'] = false) ∧ Below W.heap.size W wr)
      case atStart => exact ⟨0, by omega, rfl, (fun b' h' hlt => by omega), KW.out⟩
      case round =>
        clear KW
        obtain ⟨b, hmb, rfl, hrow, hbel⟩ := hrel
        have HM2 := Lib.hid hmb
        have HROW := Lib.hid hrow
        have KW := Lib.hid hbel
        have hb : b ≤ B.length := by omega
        clear hmb hrow hbel q0
        by_cases hbl : b < B.length
        · obtain ⟨h', hy⟩ := nn_at hbl
          obtain ⟨bp, op, cp, hv, hbp, hcp⟩ := int_at HV.out h'
          rw [hy] at hcp
          injection hv with e1 e2 e3
          subst e1
          have hbi : (b : Int) < B.length := by omega
          have hb0 : (0 : Int) ≤ (b : Int) := by omega
          have q1 := (KW.out.cell (p := ⟨bp, op + b, none⟩) hbp).trans hcp
          unfold vi at q1
          have HBM := Lib.hid (List.getElem_mem hbl)
          have hyb := hB _ HBM.out
          have HCALL := Lib.hid (HFX.out B[b] HBM.out wr KW.out)
          have HS3 := Lib.hid (HS2.out b hbl HROW.out)
          have HRX : Hid (P x B[b] = false → ∀ b' (h' : b' < B.length), b' < b + 1 → P x B[b'] = false) := Lib.hid fun h1 b' h' hlt => by
            by_cases e : b' = b
            · subst e; exact h1
            · exact HROW.out b' h' (by omega)
          clear e2 e3 hcp hbp hy h'
          generalize B[b] = y at *
          go_wp2_with fail
          refine HCALL.out.mono ?_
          rintro e w4 ⟨rfl, hb4⟩
          have KW4 := Lib.hid (KW.out.trans (hb4.mono KW.out.size))
          clear hb4 HCALL
          cases hp : P x y with
          | true =>
            have HE : Hid (res = some (x, y)) := Lib.hid (HS3.out hp)
            clear hp
            go_wp2
            go_ret
            exact ⟨.inr ⟨x, y, w4.heap.size, HE.out, rfl, KW4.out.size, Blk.new _ _ _⟩, KW4.out.alloc KW4.out.size _⟩
          | false =>
            have HG := Lib.hid (HRX.out hp)
            clear hp
            go_wp2
            go_roundg (B.length - (b + 1))
            case measure => have := HM2.out; omega
            case rel => exact ⟨b + 1, by omega, by go_num, HG.out, KW4.out⟩
        · have HG : Hid (∀ y ∈ B, P x y = false) := Lib.hid fun y hy => by
            obtain ⟨j, hj, rfl⟩ := List.getElem_of_mem hy
            exact HROW.out j hj (by omega)
          have hbx : ¬ (b : Int) < B.length := by omega
          go_wp2
          go_roundg (A.length - (a + 1))
          case measure => have := HM.out; omega
          case rel => exact ⟨a + 1, by omega, by go_num, HNX.out HG.out, KW.out⟩
    · have HE : Hid (res = none) := Lib.hid (HPN.out.2 fun x hx y hy => by
        obtain ⟨j, hj, rfl⟩ := List.getElem_of_mem hx
        exact HALL.out j hj (by omega) y hy)
      have hax : ¬ (a : Int) < A.length := by omega
      go_wp2
      go_ret
      exact ⟨.inl ⟨HE.out, rfl⟩, KW.out⟩
set_option maxRecDepth 100000 in
set_option maxHeartbeats 8000000 in
theorem pairs6_any (gp : Nat) (A B : List Nat) (P : Nat → Nat → Bool) (u v : Value) (W : World) (hu : Reads vi W u (intsNN A)) (hv : Reads vi W v (intsNN B)) (hA : ∀ x ∈ A, x ≤ 1000) (hB : ∀ x ∈ B, x ≤ 1000)
    (hf : ∀ i ∈ A, ∀ k ∈ B, ∀ wq, Below W.heap.size W wq → Calls Tryz.prog 41 #[.int .i64 (i : Int), .int .i64 (k : Int), .pointer (some ⟨gp, 0, none⟩)] wq (BoolMade wq (P i k))) :
    Calls Tryz.prog 33 #[u, v, .func (.func 41) #[] #[.pointer (some ⟨gp, 0, none⟩)]] W (PairsMade W (pairF A B P)) := by
  have HU := Lib.hid hu
  have HV := Lib.hid hv
  have HF := Lib.hid hf
  obtain ⟨ua, uk, rfl, huk, hul, -, -⟩ := hu
  obtain ⟨va, vk, rfl, hvk, hvl, -, -⟩ := hv
  have eA := nn_len A
  have eB := nn_len B
  rw [eA] at huk ⊢
  rw [eB] at hvk ⊢
  clear eA eB
  unfold maxLen at hul hvl
  have HPN := Lib.hid (pair_none (A := A) (B := B) (P := P))
  have HPS := Lib.hid (fun (a b : Nat) (ha : a < A.length) (hb : b < B.length) => pair_some (P := P) ha hb)
  generalize pairF A B P = res at *
  clear hf
  go_enter Tryz.func33, Tryz.ntmps33
  go_wp2
  go_loopg [13] A.length (fun m i wr => ∃ a : Nat, m + a = A.length ∧ i = .int .i64 a ∧ (∀ a' (h' : a' < A.length), a' < a → ∀ y ∈ B, P A[a'] y = false) ∧ Below W.heap.size W wr)
  case atStart => exact ⟨0, by omega, rfl, (fun a' h' hlt => by omega), Below.refl _ _⟩
  case round =>
    obtain ⟨a, hma, rfl, hall, hbel⟩ := hrel
    have HM := Lib.hid hma
    have HALL := Lib.hid hall
    have KW := Lib.hid hbel
    have ha : a ≤ A.length := by omega
    clear hma hall hbel
    by_cases hal : a < A.length
    · obtain ⟨h', hx⟩ := nn_at hal
      obtain ⟨bo, oo, co, hv, hbo, hco⟩ := int_at HU.out h'
      rw [hx] at hco
      injection hv with e1 e2 e3
      subst e1
      have hai : (a : Int) < A.length := by omega
      have ha0 : (0 : Int) ≤ (a : Int) := by omega
      have q0 := (KW.out.cell (p := ⟨bo, oo + a, none⟩) hbo).trans hco
      unfold vi at q0
      have HAM := Lib.hid (List.getElem_mem hal)
      have HAN := Lib.hid (And.intro hal trivial)
      have hxb := hA _ HAM.out
      have HS2 := Lib.hid (fun (b : Nat) (hb : b < B.length) h2 h3 => HPS.out a b hal hb HALL.out h2 h3)
      have HNX : Hid ((∀ y ∈ B, P A[a] y = false) → ∀ a' (h' : a' < A.length), a' < a + 1 → ∀ y ∈ B, P A[a'] y = false) := Lib.hid fun h1 a' h' hlt => by
        by_cases e : a' = a
        · subst e; exact h1
        · exact HALL.out a' h' (by omega)
      have HFX := Lib.hid (HF.out A[a] HAM.out)
      clear e2 e3 hco hbo hx h'
      generalize A[a] = x at *
      obtain ⟨G2, hG2⟩ : ∃ G, G = gk := ⟨_, rfl⟩
      subst hG2
      go_wp2
      go_loopg [19] B.length (fun m i wr => ∃ b : Nat, m + b = B.length ∧ i = .int .i64 b ∧ (∀ b' (h' : b' < B.length), b' < b → P x B[b'] = false) ∧ Below W.heap.size W wr)
      case atStart => exact ⟨0, by omega, rfl, (fun b' h' hlt => by omega), KW.out⟩
      case round =>
        clear KW
        obtain ⟨b, hmb, rfl, hrow, hbel⟩ := hrel
        have HM2 := Lib.hid hmb
        have HROW := Lib.hid hrow
        have KW := Lib.hid hbel
        have hb : b ≤ B.length := by omega
        clear hmb hrow hbel q0
        by_cases hbl : b < B.length
        · obtain ⟨h', hy⟩ := nn_at hbl
          obtain ⟨bp, op, cp, hv, hbp, hcp⟩ := int_at HV.out h'
          rw [hy] at hcp
          injection hv with e1 e2 e3
          subst e1
          have hbi : (b : Int) < B.length := by omega
          have hb0 : (0 : Int) ≤ (b : Int) := by omega
          have q1 := (KW.out.cell (p := ⟨bp, op + b, none⟩) hbp).trans hcp
          unfold vi at q1
          have HBM := Lib.hid (List.getElem_mem hbl)
          have hyb := hB _ HBM.out
          have HCALL := Lib.hid (HFX.out B[b] HBM.out wr KW.out)
          have HS3 := Lib.hid (HS2.out b hbl HROW.out)
          have HRX : Hid (P x B[b] = false → ∀ b' (h' : b' < B.length), b' < b + 1 → P x B[b'] = false) := Lib.hid fun h1 b' h' hlt => by
            by_cases e : b' = b
            · subst e; exact h1
            · exact HROW.out b' h' (by omega)
          clear e2 e3 hcp hbp hy h'
          generalize B[b] = y at *
          go_wp2_with fail
          refine HCALL.out.mono ?_
          rintro e w4 ⟨rfl, hb4⟩
          have KW4 := Lib.hid (KW.out.trans (hb4.mono KW.out.size))
          clear hb4 HCALL
          cases hp : P x y with
          | true =>
            have HE : Hid (res = some (x, y)) := Lib.hid (HS3.out hp)
            clear hp
            go_wp2
            go_ret
            exact ⟨.inr ⟨x, y, w4.heap.size, HE.out, rfl, KW4.out.size, Blk.new _ _ _⟩, KW4.out.alloc KW4.out.size _⟩
          | false =>
            have HG := Lib.hid (HRX.out hp)
            clear hp
            go_wp2
            go_roundg (B.length - (b + 1))
            case measure => have := HM2.out; omega
            case rel => exact ⟨b + 1, by omega, by go_num, HG.out, KW4.out⟩
        · have HG : Hid (∀ y ∈ B, P x y = false) := Lib.hid fun y hy => by
            obtain ⟨j, hj, rfl⟩ := List.getElem_of_mem hy
            exact HROW.out j hj (by omega)
          have hbx : ¬ (b : Int) < B.length := by omega
          go_wp2
          go_roundg (A.length - (a + 1))
          case measure => have := HM.out; omega
          case rel => exact ⟨a + 1, by omega, by go_num, HNX.out HG.out, KW.out⟩
    · have HE : Hid (res = none) := Lib.hid (HPN.out.2 fun x hx y hy => by
        obtain ⟨j, hj, rfl⟩ := List.getElem_of_mem hx
        exact HALL.out j hj (by omega) y hy)
      have hax : ¬ (a : Int) < A.length := by omega
      go_wp2
      go_ret
      exact ⟨.inl ⟨HE.out, rfl⟩, KW.out⟩
end Go.Proofs.YtjijlhjggpibjaaGreat
