/-
  Chapter 39: the closure of interval, IndexFunc and ContainsFunc at it.
-/
import Derived.Test.YtahpecbcpgjinaaCk
namespace Go.Proofs.Ytahpecbcpgjinaa
open Go.RowKit

/-- The command c lies in block gb. -/
def CmdIn (w : World) (gb : Nat) (c : Cmd) : Prop := ∃ vw vt, Blk w gb 52 #[.int .i64 c.1, .int .i64 c.2.1, .int .i64 (kindC c), vw, .int .i64 (repC c), vt] ∧ CmdAt w (cmdV c vw vt) c
theorem CmdIn.on {w w' : World} {gb : Nat} {c : Cmd} (h : CmdIn w gb c) (hb : Below w.heap.size w w') : CmdIn w' gb c := by
  obtain ⟨vw, vt, h1, h2⟩ := h; exact ⟨vw, vt, h1.on hb, h2.on hb⟩

set_option maxHeartbeats 1000000 in
theorem closure_any (v : Value) (d : Cmd) (gb : Nat) (c : Cmd) (w : World) (hi : CmdIn w gb c) (hd : CmdAt w v d) :
    Calls Try.prog 61 #[v, .pointer (some ⟨gb, 0, none⟩)] w (BoolMade w (decide (c = d))) := by
  obtain ⟨vw, vt, hbk, hc⟩ := hi
  obtain ⟨uw, ut, rfl, r1, r2⟩ := hd
  obtain ⟨s3, n3, k3, rfl⟩ := Slc.of_readsK r1
  obtain ⟨s4, n4, k4, rfl⟩ := Slc.of_reads r2
  have hd : CmdAt w (cmdV d (.slice s3 n3 k3) (.slice s4 n4 k4)) d := ⟨_, _, rfl, r1, r2⟩
  have hb0 := fun (o : Obj) => (Below.refl w.heap.size w).alloc (Nat.le_refl _) o
  have hs := fun (o : Obj) => same_any _ _ c d (w.alloc o) (hc.on (hb0 o)) (hd.on (hb0 o))
  have hlt := hbk.lt
  have c0 := hbk.cell 0
  have c1 := hbk.cell 1
  have c2 := hbk.cell 2
  have c3 := hbk.cell 3
  have c4 := hbk.cell 4
  have c5 := hbk.cell 5
  have HS := Lib.hid hs
  clear hbk hc hd r1 r2 hs hb0
  unfold cmdV at *
  go_enter Try.func61, Try.ntmps61
  go_wp2_with fail
  refine (HS.out _).mono ?_
  rintro e w1 ⟨rfl, hb1⟩
  have H1 := Lib.hid (((Below.refl w.heap.size w).alloc (Nat.le_refl _) (.cells #[.int .i64 d.1, .int .i64 d.2.1, .int .i64 (kindC d), .slice s3 n3 k3, .int .i64 (repC d), .slice s4 n4 k4] 52)).trans (hb1.mono (by simp)))
  clear hb1
  generalize decide (c = d) = b at *
  go_wp2
  go_ret
  exact ⟨rfl, H1.out⟩

def FoundC (xs : List Cmd) (c : Cmd) (i : Int) : Prop := decide (0 ≤ i) = decide (c ∈ xs)
theorem notc_snoc {xs : List Cmd} {k : Nat} {r : Cmd} (h : k < xs.length) (hp : ¬ r ∈ xs.take k) (hd : ¬ r = xs[k]) : ¬ r ∈ xs.take (k + 1) := by
  rw [List.take_succ_eq_append_getElem h]
  simp only [List.mem_append, List.mem_singleton]
  exact fun h => h.elim hp hd
theorem notc_all {xs : List Cmd} {k : Nat} {r : Cmd} (h : xs.length ≤ k) (hp : ¬ r ∈ xs.take k) : decide (r ∈ xs) = false := by
  rw [List.take_of_length_le h] at hp; exact decide_eq_false hp
theorem memc_at {xs : List Cmd} {k : Nat} {r : Cmd} (h : k < xs.length) (hd : r = xs[k]) : decide (r ∈ xs) = true := decide_eq_true (by rw [hd]; exact List.getElem_mem _)

set_option maxRecDepth 100000 in
set_option maxHeartbeats 1000000 in
theorem indexFunc_any (v : Value) (xs : List Cmd) (gb : Nat) (c : Cmd) (w : World) (hr : ReadsC w v xs) (hi : CmdIn w gb c) :
    Calls Try.prog 69 #[v, .func (.func 61) #[] #[.pointer (some ⟨gb, 0, none⟩)]] w fun e w' => ∃ i, e = .returned (.int .i64 i) ∧ FoundC xs c i ∧ Below w.heap.size w w' := by
  have HR := Lib.hid (And.intro hr hi)
  obtain ⟨ao, cap, rfl, hl, hm, hn, hx⟩ := hr
  unfold maxLen at hm
  clear hn hx hi
  go_enter Try.func69, Try.ntmps69
  go_wp2
  go_loopg [8] xs.length (fun m i wr => ∃ k : Nat, m + k = xs.length ∧ i = .int .i64 k ∧ ¬ c ∈ xs.take k ∧ Below w.heap.size w wr)
  case atStart => exact ⟨0, by omega, rfl, by simp, Below.refl _ _⟩
  case round =>
    obtain ⟨k, hmk, rfl, hp, hb⟩ := hrel
    have HP := Lib.hid (And.intro hp (And.intro hmk hb))
    have hk : k ≤ xs.length := by omega
    clear hp hmk hb
    by_cases hlt : k < xs.length
    · obtain ⟨b, off, c1, vw, vt, hv, hl1, hm1, hb, x0, x1, x2, x3, x4, x5, r1, r2⟩ := (HR.out.1.on HP.out.2.2).at_ hlt
      injection hv with e1 e2 e3
      subst e1
      have hcl := closure_any _ xs[k] gb c wr (HR.out.2.on HP.out.2.2) ⟨vw, vt, rfl, r1, r2⟩
      have h1 := @notc_snoc xs k c hlt HP.out.1
      have h2 := @memc_at xs k c hlt
      obtain ⟨s3, n3, k3, rfl⟩ := Slc.of_readsK r1
      obtain ⟨s4, n4, k4, rfl⟩ := Slc.of_reads r2
      unfold cmdV at hcl
      generalize xs[k] = x at *
      have HN := Lib.hid (And.intro h1 h2)
      clear r1 r2 h1 h2 e2 e3
      by_cases hd : c = x
      · rw [decide_eq_true hd] at hcl
        have HC := Lib.hid hcl
        have HD := Lib.hid (HN.out.2 hd)
        clear hcl hd
        go_wp2_with fail
        refine HC.out.mono ?_
        rintro e w1 ⟨rfl, hb1⟩
        have H1 := Lib.hid (HP.out.2.2.trans (hb1.mono HP.out.2.2.size))
        clear hb1
        go_wp2
        go_ret
        exact ⟨_, rfl, by unfold FoundC; rw [HD.out]; exact decide_eq_true (by omega), H1.out⟩
      · rw [decide_eq_false hd] at hcl
        have HC := Lib.hid hcl
        have HD := Lib.hid (HN.out.1 hd)
        clear hcl hd
        go_wp2_with fail
        refine HC.out.mono ?_
        rintro e w1 ⟨rfl, hb1⟩
        have H1 := Lib.hid (HP.out.2.2.trans (hb1.mono HP.out.2.2.size))
        clear hb1
        go_wp2
        go_roundg (xs.length - (k + 1))
        case measure => have := HP.out.2.1; omega
        case rel => exact ⟨k + 1, by omega, by go_num, HD.out, H1.out⟩
    · go_wp2
      go_ret
      exact ⟨_, rfl, by unfold FoundC; rw [notc_all (by omega) HP.out.1]; rfl, HP.out.2.2⟩

theorem containsFunc_any (v : Value) (xs : List Cmd) (gb : Nat) (c : Cmd) (w : World) (hr : ReadsC w v xs) (hi : CmdIn w gb c) :
    Calls Try.prog 60 #[v, .func (.func 61) #[] #[.pointer (some ⟨gb, 0, none⟩)]] w (BoolMade w (decide (c ∈ xs))) := by
  go_enter Try.func60, Try.ntmps60
  go_wp2_with fail
  refine (indexFunc_any v xs gb c _ hr hi).mono ?_
  rintro e w1 ⟨i, rfl, hf, hb⟩
  have HF := Lib.hid (And.intro hf hb)
  clear hf hr hi hb
  by_cases h : 0 ≤ i
  · have HD := Lib.hid (HF.out.1.symm.trans (decide_eq_true h))
    go_wp2
    go_ret
    exact ⟨ret_bool HD.out.symm, HF.out.2⟩
  · have h2 : i < 0 := by omega
    go_wp2
    go_ret
    exact ⟨ret_bool HF.out.1, HF.out.2⟩
end Go.Proofs.Ytahpecbcpgjinaa
