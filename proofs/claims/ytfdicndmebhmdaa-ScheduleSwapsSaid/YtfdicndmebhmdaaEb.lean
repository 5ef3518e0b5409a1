/-
  Chapter 29: events in memory; Dependent, same, and what they call.
-/
import Derived.Test.YtfdicndmebhmdaaEa
namespace Go.Proofs.Ytfdicndmebhmdaa
open Go.RowKit

theorem not_mem_snoc {xs : List Int} {k : Nat} {r : Int} (h : k < xs.length) (hp : ¬ r ∈ xs.take k) (hd : ¬ xs[k] = r) : ¬ r ∈ xs.take (k + 1) := by
  rw [List.take_succ_eq_append_getElem h]
  simp only [List.mem_append, List.mem_singleton]
  exact fun h => h.elim hp (fun e => hd e.symm)
theorem not_mem_all {xs : List Int} {k : Nat} {r : Int} (h : xs.length ≤ k) (hp : ¬ r ∈ xs.take k) : decide (r ∈ xs) = false := by
  rw [List.take_of_length_le h] at hp; exact decide_eq_false hp
theorem mem_at {xs : List Int} {k : Nat} {r : Int} (h : k < xs.length) (hd : xs[k] = r) : decide (r ∈ xs) = true := decide_eq_true (by rw [← hd]; exact List.getElem_mem _)

/-- The place of r, or none. -/
def Found (xs : List Int) (r : Int) (i : Int) : Prop := decide (0 ≤ i) = decide (r ∈ xs)

theorem index_any (v : Value) (xs : List Int) (r : Int) (w : World) (hr : Reads vi w v xs) :
    Calls Try.prog 51 #[v, .int .i64 r] w fun e w' => ∃ i, e = .returned (.int .i64 i) ∧ Found xs r i ∧ w = w' := by
  obtain ⟨ao, cap, rfl, hl, hm, hn, hx⟩ := hr
  unfold maxLen at hm
  go_enter Try.func51, Try.ntmps51
  go_wp2
  go_loop [8] (fun i => ∃ k : Nat, k ≤ xs.length ∧ i = .int .i64 k ∧ ¬ r ∈ xs.take k) (fun i => xs.length - (intOf i).toNat)
  case atStart => exact ⟨0, by omega, rfl, by simp⟩
  case round =>
    obtain ⟨k, hk, rfl, hp⟩ := hrel
    have HP := Lib.hid hp
    clear hp
    by_cases hlt : k < xs.length
    · obtain ⟨b, off, rfl, hb, hc⟩ := hx (by intro e; subst e; simp at hlt)
      have h2 : w.cell? ⟨b, off + k, none⟩ = some (.int .i64 xs[k]) := hc k hlt
      clear hc hx hn
      by_cases hd : xs[k] = r
      · have HD := Lib.hid (mem_at hlt hd)
        have hB := beq_t hd.symm
        clear hd
        go_wp2
        go_ret
        exact ⟨_, rfl, by unfold Found; rw [HD.out]; exact decide_eq_true (by omega), rfl⟩
      · have HD := Lib.hid (not_mem_snoc hlt HP.out hd)
        have hB := beq_f (fun e => hd (Eq.symm e))
        clear hd
        go_wp2
        go_round
        case rel => exact ⟨k + 1, by omega, by go_num, HD.out⟩
        case measure => simp [intOf]; omega
    · go_wp2
      go_ret
      exact ⟨_, rfl, by unfold Found; rw [not_mem_all (by omega) HP.out]; rfl, rfl⟩

theorem contains_any (v : Value) (xs : List Int) (r : Int) (w : World) (hr : Reads vi w v xs) :
    Calls Try.prog 32 #[v, .int .i64 r] w fun e w' => e = .returned (.bool (decide (r ∈ xs))) ∧ w = w' := by
  go_enter Try.func32, Try.ntmps32
  go_wp2_with fail
  refine (index_any v xs r _ hr).mono ?_
  rintro e w1 ⟨i, rfl, hf, rfl⟩
  have HF := Lib.hid hf
  clear hf hr
  by_cases h : 0 ≤ i
  · have HD := Lib.hid (HF.out.symm.trans (decide_eq_true h))
    go_wp2
    go_ret
    exact ⟨ret_bool HD.out.symm, rfl⟩
  · have h2 : i < 0 := by omega
    go_wp2
    go_ret
    exact ⟨ret_bool HF.out, rfl⟩

theorem equali_any (v u : Value) (xs ys : List Int) (w : World) (hr : Reads vi w v xs) (hs : Reads vi w u ys) :
    Calls Try.prog 55 #[v, u] w fun e w' => e = .returned (.bool (decide (xs = ys))) ∧ Drew w w' := by
  obtain ⟨ao, cap, rfl, hl, hm, hn, hx⟩ := hr
  obtain ⟨ao', cap', rfl, hl', hm', hn', hx'⟩ := hs
  unfold maxLen at hm hm'
  by_cases hnm : xs.length = ys.length
  · have HN := Lib.hid hnm
    rw [← hnm]
    rw [← hnm] at hl'
    clear hnm
    go_enter Try.func55, Try.ntmps55
    go_wp2
    go_loopw [13] (fun i wr => ∃ k : Nat, k ≤ xs.length ∧ i = .int .i64 k ∧ xs.take k = ys.take k ∧ Drew w wr) (fun i _ => xs.length - (intOf i).toNat)
    case atStart => exact ⟨0, by omega, rfl, by simp, Drew.refl _⟩
    case round =>
      obtain ⟨k, hk, rfl, hp, hw⟩ := hrel
      have HP := Lib.hid hp
      clear hp
      by_cases hlt : k < xs.length
      · have hlt' : k < ys.length := by rw [← HN.out]; exact hlt
        obtain ⟨b, off, rfl, hb, hc⟩ := hx (by intro e; subst e; simp at hlt)
        obtain ⟨b', off', rfl, hb', hc'⟩ := hx' (by intro e; subst e; simp at hlt')
        have h1 : wr.cell? ⟨b, off + k, none⟩ = some (.int .i64 xs[k]) := (hw.cell _).trans (hc k hlt)
        have h2 : wr.cell? ⟨b', off' + k, none⟩ = some (.int .i64 ys[k]) := (hw.cell _).trans (hc' k hlt')
        clear hc hx hn hc' hx' hn'
        by_cases hd : xs[k] = ys[k]
        · have hB := bne_f hd
          have HD := Lib.hid hd
          clear hd
          go_wp2
          go_quiet (fail)
          go_wp2
          go_roundw
          case rel => exact ⟨k + 1, by omega, by go_num, by rw [List.take_succ_eq_append_getElem hlt, List.take_succ_eq_append_getElem hlt', HP.out, HD.out], hw.step _⟩
          case measure => simp [intOf]; omega
        · have hB := bne_t hd
          have HD := Lib.hid hd
          clear hd
          go_wp2
          go_quiet (fail)
          go_wp2
          go_ret
          exact ⟨ret_bool (decide_eq_false (fun e => HD.out (by subst e; rfl))).symm, hw.step _⟩
      · go_wp2
        go_ret
        refine ⟨ret_bool (decide_eq_true ?_).symm, hw⟩
        have := HP.out
        rwa [List.take_of_length_le (by omega), List.take_of_length_le (by rw [← HN.out]; omega)] at this
  · have hne : ((xs.length : Int) != (ys.length : Int)) = true := by rw [bne_iff_ne]; omega
    go_enter Try.func55, Try.ntmps55
    go_wp2
    go_ret
    exact ⟨ret_bool (decide_eq_false (fun e => hnm (by rw [e]))).symm, Drew.refl _⟩



def evCs (e : Ev) (vu : Value) : List Value := [.int .i64 e.1, vu]
def evV (e : Ev) (vu : Value) : Value := .agg #[.int .i64 e.1, vu]
def EvE (w : World) (cs : List Value) (e : Ev) : Prop := ∃ vu, cs = evCs e vu ∧ Reads vi w vu e.2
theorem keepsEv : Keeps EvE := fun _ _ _ _ hb ⟨vu, h, h1⟩ => ⟨vu, h, h1.keep hb⟩
/-- A trace. -/
abbrev ReadsE (w : World) (v : Value) (t : List Ev) : Prop := ReadsK 2 EvE w v t
theorem ReadsE.on {w w' : World} {v : Value} {t : List Ev} (h : ReadsE w v t) (hb : Below w.heap.size w w') : ReadsE w' v t := ReadsK.keep keepsEv h hb
/-- An event by value. -/
def EvAt (w : World) (v : Value) (e : Ev) : Prop := ∃ vu, v = evV e vu ∧ Reads vi w vu e.2
theorem EvAt.on {w w' : World} {v : Value} {e : Ev} (h : EvAt w v e) (hb : Below w.heap.size w w') : EvAt w' v e := by
  obtain ⟨vu, rfl, h1⟩ := h; exact ⟨vu, rfl, h1.keep hb⟩
/-- The event lies in block g. -/
def EvIn (w : World) (g : Nat) (e : Ev) : Prop := ∃ vu, Blk w g 29 #[.int .i64 e.1, vu] ∧ Reads vi w vu e.2
theorem EvIn.on {w w' : World} {g : Nat} {e : Ev} (h : EvIn w g e) (hb : Below w.heap.size w w') : EvIn w' g e := by
  obtain ⟨vu, h1, h2⟩ := h; exact ⟨vu, h1.on hb, h2.keep hb⟩
theorem ReadsE.at_ {w : World} {v : Value} {t : List Ev} (h : ReadsE w v t) {k : Nat} (hk : k < t.length) : ∃ b off cap vu, v = .slice (some ⟨b, off, none⟩) t.length cap ∧ t.length ≤ cap ∧ cap ≤ maxLen ∧ b < w.heap.size ∧
    (∀ wq, Below w.heap.size w wq → wq.cell? ⟨b, off + k * 2, none⟩ = some (.int .i64 t[k].1) ∧ wq.cell? ⟨b, off + k * 2 + 1, none⟩ = some vu) ∧ Reads vi w vu t[k].2 := by
  obtain ⟨ao, cap, rfl, h1, h2, h3, h4⟩ := h
  obtain ⟨b, off, rfl, hb, hc⟩ := h4 (by rintro rfl; simp at hk)
  obtain ⟨cs, h5, h6, vu, rfl, r1⟩ := hc k hk
  exact ⟨b, off, cap, vu, rfl, h1, h2, hb, fun wq hq => ⟨(hq.cell (p := ⟨b, off + k * 2, none⟩) hb).trans (by simpa using h6 0 _ rfl), (hq.cell (p := ⟨b, off + k * 2 + 1, none⟩) hb).trans (h6 1 _ rfl)⟩, r1⟩

theorem ReadsE.at2 {w : World} {v : Value} {t : List Ev} (h : ReadsE w v t) {k : Nat} (hk : k < t.length) : ∃ b off cap s1 c1, v = .slice (some ⟨b, off, none⟩) t.length cap ∧
    (∀ wq, Below w.heap.size w wq → wq.cell? ⟨b, off + k * 2, none⟩ = some (.int .i64 t[k].1) ∧ wq.cell? ⟨b, off + k * 2 + 1, none⟩ = some (.slice s1 t[k].2.length c1)) ∧ Reads vi w (.slice s1 t[k].2.length c1) t[k].2 := by
  obtain ⟨b, off, cap, vu, rfl, h1, h2, h3, h4, h5⟩ := h.at_ hk
  obtain ⟨s1, c1, rfl, h6⟩ := h5
  exact ⟨b, off, cap, s1, c1, rfl, h4, ⟨s1, c1, rfl, h6⟩⟩
set_option maxHeartbeats 1000000 in
theorem depclo_any (n : Int) (gb : Nat) (e : Ev) (w : World) (hi : EvIn w gb e) :
    Calls Try.prog 31 #[.int .i64 n, .pointer (some ⟨gb, 0, none⟩)] w fun r w' => r = .returned (.bool (decide (n ∈ e.2))) ∧ w = w' := by
  obtain ⟨vu, hbk, hr⟩ := hi
  have c1 := hbk.cell 1
  obtain ⟨s1, n1, k1, rfl⟩ := Slc.of_reads hr
  have HC := Lib.hid (contains_any _ e.2 n w hr)
  clear hbk hr
  go_enter Try.func31, Try.ntmps31
  go_wp2_with fail
  refine HC.out.mono ?_
  rintro r w1 ⟨rfl, rfl⟩
  go_wp2
  go_ret
  exact ⟨rfl, rfl⟩
def someIn (xs ys : List Int) : Bool := xs.any fun n => decide (n ∈ ys)
theorem someIn_snoc {xs ys : List Int} {k : Nat} (h : k < xs.length) (hp : someIn (xs.take k) ys = false) (hd : ¬ xs[k] ∈ ys) : someIn (xs.take (k + 1)) ys = false := by
  unfold someIn at *
  rw [List.take_succ_eq_append_getElem h, List.any_append, hp]
  simp [hd]
theorem someIn_at {xs ys : List Int} {k : Nat} (h : k < xs.length) (hd : xs[k] ∈ ys) : someIn xs ys = true := by
  unfold someIn
  rw [List.any_eq_true]
  exact ⟨xs[k], List.getElem_mem _, decide_eq_true hd⟩
theorem someIn_all {xs ys : List Int} {k : Nat} (h : xs.length ≤ k) (hp : someIn (xs.take k) ys = false) : someIn xs ys = false := by
  rwa [List.take_of_length_le h] at hp
theorem depE_eq (a b : Ev) : depE a b = (a.1 == b.1 || someIn a.2 b.2) := rfl
set_option maxRecDepth 100000 in
set_option maxHeartbeats 1000000 in
theorem indexFunci_any (v : Value) (xs : List Int) (gb : Nat) (e : Ev) (w : World) (hr : Reads vi w v xs) (hi : EvIn w gb e) :
    Calls Try.prog 50 #[v, .func (.func 31) #[] #[.pointer (some ⟨gb, 0, none⟩)]] w fun r w' => ∃ i, r = .returned (.int .i64 i) ∧ decide (0 ≤ i) = someIn xs e.2 ∧ w = w' := by
  have HR := Lib.hid hi
  obtain ⟨ao, cap, rfl, hl, hm, hn, hx⟩ := hr
  have HX := Lib.hid hx
  unfold maxLen at hm
  clear hn hi hx
  go_enter Try.func50, Try.ntmps50
  go_wp2
  go_loop [8] (fun i => ∃ k : Nat, k ≤ xs.length ∧ i = .int .i64 k ∧ someIn (xs.take k) e.2 = false) (fun i => xs.length - (intOf i).toNat)
  case atStart => exact ⟨0, by omega, rfl, rfl⟩
  case round =>
    obtain ⟨k, hk, rfl, hp⟩ := hrel
    have HP := Lib.hid hp
    clear hp
    by_cases hlt : k < xs.length
    · obtain ⟨b, off, rfl, hb, hc⟩ := HX.out (by intro e; subst e; simp at hlt)
      have h2 : w.cell? ⟨b, off + k, none⟩ = some (.int .i64 xs[k]) := hc k hlt
      have HCL := Lib.hid (depclo_any xs[k] gb e w HR.out)
      have HS := Lib.hid (And.intro (@someIn_snoc xs e.2 k hlt HP.out) (@someIn_at xs e.2 k hlt))
      clear hc HX
      generalize xs[k] = x at *
      by_cases hd : x ∈ e.2
      · have HD := Lib.hid (HS.out.2 hd)
        rw [decide_eq_true hd] at HCL
        clear hd HS
        go_wp2_with fail
        refine HCL.out.mono ?_
        rintro r w1 ⟨rfl, rfl⟩
        go_wp2
        go_ret
        exact ⟨_, rfl, by rw [HD.out]; exact decide_eq_true (by omega), rfl⟩
      · have HD := Lib.hid (HS.out.1 hd)
        rw [decide_eq_false hd] at HCL
        clear hd HS
        go_wp2_with fail
        refine HCL.out.mono ?_
        rintro r w1 ⟨rfl, rfl⟩
        go_wp2
        go_round
        case rel => exact ⟨k + 1, by omega, by go_num, HD.out⟩
        case measure => simp [intOf]; omega
    · go_wp2
      go_ret
      exact ⟨_, rfl, by rw [someIn_all (by omega) HP.out]; rfl, rfl⟩
theorem containsFunci_any (v : Value) (xs : List Int) (gb : Nat) (e : Ev) (w : World) (hr : Reads vi w v xs) (hi : EvIn w gb e) :
    Calls Try.prog 30 #[v, .func (.func 31) #[] #[.pointer (some ⟨gb, 0, none⟩)]] w fun r w' => r = .returned (.bool (someIn xs e.2)) ∧ w = w' := by
  have HC := Lib.hid (indexFunci_any v xs gb e w hr hi)
  clear hr hi
  go_enter Try.func30, Try.ntmps30
  go_wp2_with fail
  refine HC.out.mono ?_
  rintro r w1 ⟨i, rfl, hf, rfl⟩
  have HF := Lib.hid hf
  clear hf HC
  by_cases h : 0 ≤ i
  · have HD := Lib.hid (HF.out.symm.trans (decide_eq_true h))
    go_wp2
    go_ret
    exact ⟨ret_bool HD.out.symm, rfl⟩
  · have h2 : i < 0 := by omega
    go_wp2
    go_ret
    exact ⟨ret_bool HF.out, rfl⟩
set_option maxRecDepth 100000 in
set_option maxHeartbeats 1000000 in
theorem dep_any (va vb : Value) (a b : Ev) (w : World) (ha : EvAt w va a) (hb : EvAt w vb b) : Calls Try.prog 14 #[va, vb] w (BoolMade w (depE a b)) := by
  obtain ⟨ua, rfl, r1⟩ := ha
  obtain ⟨ub, rfl, r2⟩ := hb
  obtain ⟨s1, n1, k1, rfl⟩ := Slc.of_reads r1
  obtain ⟨s2, n2, k2, rfl⟩ := Slc.of_reads r2
  unfold evV
  have HK : Hid (∀ o1 : Obj, EvIn ((w.alloc o1).alloc (.cells #[.int .i64 b.1, .slice s2 n2 k2] 29)) (w.heap.size + 1) b) := Lib.hid fun o1 => by
    have h1 := Blk.new (w.alloc o1) 29 #[.int .i64 b.1, .slice s2 n2 k2]
    rw [World.size_alloc] at h1
    exact ⟨_, h1, r2.keep (below_two w _ _)⟩
  have HCF := Lib.hid (fun (o1 o2 : Obj) (hB : EvIn ((w.alloc o1).alloc o2) (w.heap.size + 1) b) => containsFunci_any _ a.2 (w.heap.size + 1) b _ (r1.keep (below_two w o1 o2)) hB)
  have HE := Lib.hid (depE_eq a b)
  generalize depE a b = d at *
  clear r1 r2
  by_cases hn : a.1 = b.1
  · have e1 := beq_t hn
    have HD : Hid (d = true) := Lib.hid (by rw [HE.out, e1]; rfl)
    rw [HD.out]
    clear hn HCF HK HE HD
    go_enter Try.func14, Try.ntmps14
    go_wp2
    go_ret
    exact ⟨rfl, below_two w _ _⟩
  · have e1 := beq_f hn
    have HD : Hid (d = someIn a.2 b.2) := Lib.hid (by rw [HE.out, e1]; rfl)
    rw [HD.out]
    clear hn HE HD
    go_enter Try.func14, Try.ntmps14
    go_wp2_with fail
    refine (HCF.out _ _ (HK.out _)).mono ?_
    rintro r w1 ⟨rfl, rfl⟩
    clear HCF HK
    generalize someIn a.2 b.2 = d2 at *
    go_wp2
    go_ret
    exact ⟨rfl, below_two w _ _⟩
theorem ev_eq (a b : Ev) : decide (a = b) = (decide (a.1 = b.1) && decide (a.2 = b.2)) := by
  rw [Bool.eq_iff_iff]
  simp only [decide_eq_true_eq, Bool.and_eq_true]
  exact Prod.ext_iff
set_option maxRecDepth 100000 in
set_option maxHeartbeats 1000000 in
theorem same_any (va vb : Value) (a b : Ev) (w : World) (ha : EvAt w va a) (hb : EvAt w vb b) : Calls Try.prog 40 #[va, vb] w (BoolMade w (decide (a = b))) := by
  obtain ⟨ua, rfl, r1⟩ := ha
  obtain ⟨ub, rfl, r2⟩ := hb
  obtain ⟨s1, n1, k1, rfl⟩ := Slc.of_reads r1
  obtain ⟨s2, n2, k2, rfl⟩ := Slc.of_reads r2
  unfold evV
  have HCF := Lib.hid (fun (o1 o2 : Obj) => equali_any _ _ a.2 b.2 ((w.alloc o1).alloc o2) (r1.keep (below_two w o1 o2)) (r2.keep (below_two w o1 o2)))
  rw [ev_eq]
  clear r1 r2
  by_cases hn : a.1 = b.1
  · have e1 := beq_t hn
    rw [decide_eq_true hn, Bool.true_and]
    clear hn
    go_enter Try.func40, Try.ntmps40
    go_wp2_with fail
    refine (HCF.out _ _).mono ?_
    rintro r w1 ⟨rfl, hd⟩
    have HW := Lib.hid ((below_two w _ _).trans hd.below)
    clear HCF hd
    generalize decide (a.2 = b.2) = d2 at *
    go_wp2
    go_ret
    exact ⟨rfl, HW.out⟩
  · have e1 := beq_f hn
    rw [decide_eq_false hn, Bool.false_and]
    clear hn HCF
    go_enter Try.func40, Try.ntmps40
    go_wp2
    go_ret
    exact ⟨rfl, below_two w _ _⟩
end Go.Proofs.Ytfdicndmebhmdaa
