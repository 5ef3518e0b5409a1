/-
  Chapter 29: the reference's Small.
-/
import Derived.Test.YtfdicndmebhmdaaEj
namespace Go.Proofs.Ytfdicndmebhmdaa
open Go.RowKit

def smB (t : List Ev) (m : Int) : Bool := decide ((t.length : Int) ≤ m) && t.all fun e => decide (e.2.length ≤ 6)
theorem smB_of {t : List Ev} {m : Int} (h : smB t m = true) : (t.length : Int) ≤ m ∧ ∀ e ∈ t, e.2.length ≤ 6 := by
  unfold smB at h
  rw [Bool.and_eq_true, List.all_eq_true] at h
  exact ⟨of_decide_eq_true h.1, fun e he => of_decide_eq_true (h.2 e he)⟩
theorem smB_no {t : List Ev} {m : Int} (h : m < (t.length : Int) ∨ ∃ k, ∃ hk : k < t.length, 6 < t[k].2.length) : smB t m = false := by
  rw [← Bool.not_eq_true]
  intro hs
  obtain ⟨h1, h2⟩ := smB_of hs
  rcases h with h | ⟨k, hk, h⟩
  · omega
  · have := h2 _ (List.getElem_mem hk); omega
theorem smB_yes {t : List Ev} {m : Int} (h1 : (t.length : Int) ≤ m) (h2 : ∀ k (hk : k < t.length), t[k].2.length ≤ 6) : smB t m = true := by
  unfold smB
  rw [Bool.and_eq_true, List.all_eq_true]
  refine ⟨decide_eq_true h1, fun e he => ?_⟩
  obtain ⟨k, hk, rfl⟩ := List.getElem_of_mem he
  exact decide_eq_true (h2 k hk)
theorem SmallT.of {t : List Ev} {m : Int} (h : smB t m = true) (hm : m ≤ 100) : SmallT t := by
  obtain ⟨h1, h2⟩ := smB_of h
  exact ⟨by omega, fun e he => by have := h2 e he; omega⟩

set_option maxRecDepth 100000 in
set_option maxHeartbeats 4000000 in
theorem rsmall_any (v : Value) (t : List Ev) (most : Int) (W : World) (hr : ReadsE W v t) : Calls Try.prog 12 #[v, .int .i64 most] W (fun e w' => e = .returned (.bool (smB t most)) ∧ w' = W) := by
  have HR := Lib.hid hr
  obtain ⟨ao, cap, rfl, hl, hm, -, -⟩ := hr
  unfold maxLen at hm
  have HNO := Lib.hid (@smB_no t most)
  have HYES := Lib.hid (@smB_yes t most)
  generalize smB t most = res at *
  go_enter Try.func12, Try.ntmps12
  by_cases hlen : most < (t.length : Int)
  · have HE := Lib.hid (HNO.out (.inl hlen))
    go_wp2
    go_ret
    exact ⟨ret_bool HE.out.symm, rfl⟩
  · have HLEN := Lib.hid hlen
    go_wp2
    clear hlen
    go_loop [5] (fun i => ∃ k : Nat, k ≤ t.length ∧ i = .int .i64 k ∧ ∀ j (hj : j < t.length), j < k → t[j].2.length ≤ 6) (fun i => t.length - (intOf i).toNat)
    case atStart => exact ⟨0, by omega, rfl, fun j _ h => by omega⟩
    case round =>
      obtain ⟨k, hk, rfl, hall⟩ := hrel
      have HALL := Lib.hid hall
      clear hall
      by_cases hlt : k < t.length
      · obtain ⟨b, off, cap1, s1, c1, hv, hcell, r1⟩ := HR.out.at2 hlt
        injection hv with e1 e2 e3
        subst e1
        have hki : (k : Int) < t.length := by omega
        have hk0 : (0 : Int) ≤ (k : Int) := by omega
        have d1 := (hcell W (Below.refl _ _)).2
        have HB : Hid (6 < t[k].2.length → res = false) := Lib.hid fun h1 => HNO.out (.inr ⟨k, hlt, h1⟩)
        have HG : Hid (t[k].2.length ≤ 6 → ∀ j (hj : j < t.length), j < k + 1 → t[j].2.length ≤ 6) := Lib.hid fun h1 j hj hjk => by
          rcases Nat.lt_or_ge j k with h2 | h2
          · exact HALL.out j hj h2
          · have : j = k := by omega
            subst this; exact h1
        clear e2 e3 hcell r1
        generalize t[k] = x at *
        by_cases n4 : 6 < x.2.length
        · have n4i : (6 : Int) < x.2.length := by omega
          have HE := Lib.hid (HB.out n4)
          go_wp2
          go_ret
          exact ⟨ret_bool HE.out.symm, rfl⟩
        · have n4i : ¬ (6 : Int) < x.2.length := by omega
          have HN := Lib.hid (HG.out (by omega))
          have ew : IntKind.i64.wrap ((k : Int) + 1) = ((k + 1 : Nat) : Int) := by rw [IntWalk.i64_in _ (by omega)]; rfl
          go_wp2
          go_round
          case measure => simp [intOf]; omega
          case rel => exact ⟨k + 1, by omega, by go_num, HN.out⟩
      · have hki : ¬ (k : Int) < t.length := by omega
        have e : k = t.length := by omega
        have HE := Lib.hid (HYES.out (by have := HLEN.out; omega) fun j hj => HALL.out j hj (by omega))
        go_wp2
        go_ret
        exact ⟨ret_bool HE.out.symm, rfl⟩
end Go.Proofs.Ytfdicndmebhmdaa
