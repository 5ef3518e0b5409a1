/-
  Chapter 55, plain: the indices that Check returns show the reason by themselves.
-/
import Derived.Test.YtjijlhjggpibjaaGreatGn
namespace Go.Proofs.YtjijlhjggpibjaaGreat

def dfZ : Opn := (0, 0, 0, 0, [], [])
def xAt (h : List Opn) (ats : List Nat) (j : Nat) : Opn := match ats[j]? with | some i => nth h i | none => dfZ
def WitP (h : List Opn) (q : Int × List Int) : Prop := (q.1 < 3 ∧ q.2.length ≤ 1) ∨ ∃ (r : Nat) (ats : List Nat), 3 ≤ r ∧ r ≤ 8 ∧ q = ((r : Int), intsNN ats) ∧ (∀ i ∈ ats, i < h.length) ∧ 2 ≤ ats.length ∧ ats.length ≤ 3 ∧ (r = 8 ↔ ats.length = 3) ∧ holdB r (xAt h ats 0) (xAt h ats 1) (xAt h ats 2) = true
theorem rdO_iff {h : List Opn} {i : Nat} : rdO (nth h i) = true ↔ RdI h i := decide_eq_true_iff
theorem upO_iff {h : List Opn} {i : Nat} : upO (nth h i) = true ↔ UpI h i := decide_eq_true_iff
theorem shO_iff {h : List Opn} {r u : Nat} : shO (nth h r) (nth h u) = true ↔ ShowI h r u := sub_iff
theorem shO_dec {h : List Opn} {r u : Nat} : shO (nth h r) (nth h u) = decide (ShowI h r u) := by rw [Bool.eq_iff_iff, shO_iff, decide_eq_true_iff]
theorem wi_dec {h : List Opn} {r q : Nat} : subB (seeO (nth h r)) (seeO (nth h q)) = decide (WithI h r q) := by rw [Bool.eq_iff_iff, sub_iff, decide_eq_true_iff]; exact Iff.rfl
theorem befO_dec {h : List Opn} (hw : Well h) {i k : Nat} (hi : i < h.length) : befO (nth h i) (nth h k) = prI h i k := by
  rw [Bool.eq_iff_iff]
  constructor
  · intro h1
    have h2 := of_decide_eq_true h1
    unfold prI precB
    exact decide_eq_true ⟨by omega, h2.2⟩
  · intro h1
    have h2 := pr_end hw hi h1
    exact decide_eq_true ⟨h2.1, h2.2⟩
theorem in_dec {h : List Opn} {r u : Nat} : inB (addO (nth h u)) (seeO (nth h r)) = decide (0 < cntS h r u) := by
  unfold inB
  refine decide_eq_decide.2 ?_
  rw [inter_ne]
  exact cntL_pos.symm
theorem hb3 (a b c : Opn) : holdB 3 a b c = hold3 a b := rfl
theorem hb4 (a b c : Opn) : holdB 4 a b c = hold4 a b := rfl
theorem hb5 (a b c : Opn) : holdB 5 a b c = hold5 a b := rfl
theorem hb6 (a b c : Opn) : holdB 6 a b c = hold6 a b := rfl
theorem hb7 (a b c : Opn) : holdB 7 a b c = hold7 a b := rfl
theorem hb8 (a b c : Opn) : holdB 8 a b c = hold8 a b c := rfl
section
variable {h : List Opn}
theorem hold3_dec {i k : Nat} : hold3 (nth h i) (nth h k) = (decide (RdI h i) && decide (UpI h k) && tornB h i k) := by
  unfold hold3 tornB
  rw [shO_dec, in_dec]
  have e1 : rdO (nth h i) = decide (RdI h i) := rfl
  have e2 : upO (nth h k) = decide (UpI h k) := rfl
  rw [e1, e2]
  cases decide (RdI h i) <;> cases decide (UpI h k) <;> cases decide (ShowI h i k) <;> cases decide (0 < cntS h i k) <;> rfl
theorem hold4_dec {i k : Nat} : hold4 (nth h i) (nth h k) = (decide (RdI h i) && decide (RdI h k) && (!decide (WithI h i k) && !decide (WithI h k i))) := by
  unfold hold4
  rw [wi_dec, wi_dec]
  have e1 : rdO (nth h i) = decide (RdI h i) := rfl
  have e2 : rdO (nth h k) = decide (RdI h k) := rfl
  rw [e1, e2, Bool.and_assoc]
theorem hold5_dec (hw : Well h) {i k : Nat} (hi : i < h.length) : hold5 (nth h i) (nth h k) = (decide (RdI h i) && decide (UpI h k) && earlyB h i k) := by
  unfold hold5 earlyB
  rw [shO_dec, befO_dec hw hi]
  have e1 : rdO (nth h i) = decide (RdI h i) := rfl
  have e2 : upO (nth h k) = decide (UpI h k) := rfl
  rw [e1, e2, Bool.and_assoc]
theorem hold6_dec (hw : Well h) {i k : Nat} (hi : i < h.length) : hold6 (nth h i) (nth h k) = (decide (UpI h i) && decide (RdI h k) && lateB h i k) := by
  unfold hold6 lateB
  rw [shO_dec, befO_dec hw hi]
  have e1 : upO (nth h i) = decide (UpI h i) := rfl
  have e2 : rdO (nth h k) = decide (RdI h k) := rfl
  rw [e1, e2, Bool.and_assoc]
theorem hold7_dec (hw : Well h) {i k : Nat} (hi : i < h.length) : hold7 (nth h i) (nth h k) = (decide (RdI h i) && decide (RdI h k) && backB h i k) := by
  unfold hold7 backB
  rw [wi_dec, befO_dec hw hi]
  have e1 : rdO (nth h i) = decide (RdI h i) := rfl
  have e2 : rdO (nth h k) = decide (RdI h k) := rfl
  rw [e1, e2, Bool.and_assoc]
theorem hold8_dec (hw : Well h) {u w r : Nat} (hu : u < h.length) : hold8 (nth h u) (nth h w) (nth h r) = (decide (UpI h u) && decide (UpI h w) && decide (RdI h r) && swapB h u w r) := by
  unfold hold8 swapB
  rw [shO_dec, shO_dec, befO_dec hw hu]
  have e1 : upO (nth h u) = decide (UpI h u) := rfl
  have e2 : upO (nth h w) = decide (UpI h w) := rfl
  have e3 : rdO (nth h r) = decide (RdI h r) := rfl
  rw [e1, e2, e3]
  cases decide (UpI h u) <;> cases decide (UpI h w) <;> cases decide (RdI h r) <;> cases prI h u w <;> cases decide (ShowI h r w) <;> cases decide (ShowI h r u) <;> rfl
theorem wit_pair {r : Nat} {A B : List Nat} {P : Nat → Nat → Bool} {rest : Int × List Int} (h3 : 3 ≤ r) (h7 : r ≤ 7) (hP : ∀ i k, i ∈ A → k ∈ B → P i k = true → i < h.length ∧ k < h.length ∧ ∀ c, holdB r (nth h i) (nth h k) c = true) (hr : WitP h rest) : WitP h (pairR (r : Int) (pairF A B P) rest) := by
  unfold pairR
  cases hq : pairF A B P with
  | none => exact hr
  | some p =>
    obtain ⟨i, k⟩ := p
    obtain ⟨a, b, c⟩ := pair_spec hq
    obtain ⟨q1, q2, q3⟩ := hP i k a b c
    refine .inr ⟨r, [i, k], h3, by omega, rfl, fun j hj => ?_, by simp, by simp, by simp; omega, q3 _⟩
    rcases List.mem_cons.1 hj with rfl | h5
    · exact q1
    · rw [List.mem_singleton.1 h5]; exact q2
theorem res_wit : WitP h (resR h) := by
  unfold resR
  by_cases h0 : (chkL h).2 = 0
  · have hw := chk_well.1 h0
    rw [if_pos h0]
    unfold res2
    cases (rdK h h.length).find? (unkB h) with
    | some r => exact .inl ⟨by show (2 : Int) < 3; decide, by simp⟩
    | none =>
      refine wit_pair (r := 3) (by omega) (by omega) (fun i k hi hk hp => ?_) (wit_pair (r := 4) (by omega) (by omega) (fun i k hi hk hp => ?_) (wit_pair (r := 5) (by omega) (by omega) (fun i k hi hk hp => ?_) (wit_pair (r := 6) (by omega) (by omega) (fun i k hi hk hp => ?_) (wit_pair (r := 7) (by omega) (by omega) (fun i k hi hk hp => ?_) ?_))))
      · have a := mem_rdK.1 hi
        have b := mem_upK.1 hk
        exact ⟨a.1, b.1, fun c => by rw [hb3, hold3_dec, decide_eq_true a.2, decide_eq_true b.2, hp]; rfl⟩
      · have a := mem_rdK.1 hi
        have b := mem_rdK.1 hk
        refine ⟨a.1, b.1, fun c => ?_⟩
        rw [hb4, hold4_dec, decide_eq_true a.2, decide_eq_true b.2]
        unfold apartB at hp
        rw [Bool.and_assoc, Bool.and_eq_true] at hp
        rw [hp.2]; rfl
      · have a := mem_rdK.1 hi
        have b := mem_upK.1 hk
        exact ⟨a.1, b.1, fun c => by rw [hb5, hold5_dec hw a.1, decide_eq_true a.2, decide_eq_true b.2, hp]; rfl⟩
      · have a := mem_upK.1 hi
        have b := mem_rdK.1 hk
        exact ⟨a.1, b.1, fun c => by rw [hb6, hold6_dec hw a.1, decide_eq_true a.2, decide_eq_true b.2, hp]; rfl⟩
      · have a := mem_rdK.1 hi
        have b := mem_rdK.1 hk
        exact ⟨a.1, b.1, fun c => by rw [hb7, hold7_dec hw a.1, decide_eq_true a.2, decide_eq_true b.2, hp]; rfl⟩
      · unfold res8
        cases ht : tripF h with
        | none => exact .inl ⟨by show (0 : Int) < 3; decide, by simp⟩
        | some p =>
          obtain ⟨u, w, r⟩ := p
          unfold tripF at ht
          obtain ⟨u', hu', ht⟩ := List.exists_of_findSome?_eq_some ht
          obtain ⟨w', hw', ht⟩ := List.exists_of_findSome?_eq_some ht
          unfold swF at ht
          split at ht
          · rename_i hp
            rw [Option.map_eq_some_iff] at ht
            obtain ⟨r', hr', he⟩ := ht
            injection he with e1 e2
            injection e2 with e2 e3
            subst e1 e2 e3
            have h1 := List.find?_some hr'
            have h2 := List.mem_of_find?_eq_some hr'
            have a := mem_upK.1 hu'
            have b := mem_upK.1 hw'
            have c := mem_rdK.1 h2
            refine .inr ⟨8, [u', w', r'], by omega, by omega, rfl, fun j hj => ?_, by simp, by simp, by simp, ?_⟩
            · simp only [List.mem_cons, List.not_mem_nil, or_false] at hj
              rcases hj with rfl | rfl | rfl
              · exact a.1
              · exact b.1
              · exact c.1
            · show holdB 8 (nth h u') (nth h w') (nth h r') = true
              rw [hb8, hold8_dec hw a.1, decide_eq_true a.2, decide_eq_true b.2, decide_eq_true c.2]
              unfold swapB
              rw [hp, Bool.true_and, Bool.true_and, Bool.true_and]; exact h1
          · cases ht
  · rw [if_neg h0]
    exact .inl ⟨by show (1 : Int) < 3; decide, by simp⟩
end
end Go.Proofs.YtjijlhjggpibjaaGreat
