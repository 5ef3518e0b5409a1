/-
  Chapter 39: the plain law of configurations: what Must, May, Quorate, Members say, in numbers of replicas.
-/
import Derived.Test.YtahpecbcpgjinaaLb
namespace Go.Proofs.Ytahpecbcpgjinaa

/-- A command as plain data: client, seq, kind, writes, replica, tag. -/
abbrev Cmd := Int × Int × Int × List (Str × Str) × Int × Str
instance decWrites : DecidableEq (List (Str × Str)) := inferInstance
instance decTail : DecidableEq (Int × Str) := inferInstance
instance decRest : DecidableEq (List (Str × Str) × Int × Str) := inferInstance
instance decCmd : DecidableEq Cmd := inferInstance
def kindC (c : Cmd) : Int := c.2.2.1
def repC (c : Cmd) : Int := c.2.2.2.2.1

def confB (R : Int) (c : Cmd) : Bool := decide ((kindC c = 2 ∨ kindC c = 3) ∧ 0 ≤ repC c ∧ repC c < R)
def addedB (L : List Cmd) (r : Int) : Bool := decide (∃ c ∈ L, kindC c = 2 ∧ repC c = r)
def removedB (L : List Cmd) (r : Int) : Bool := decide (∃ c ∈ L, kindC c = 3 ∧ repC c = r)
def reps (R : Int) : List Int := (List.range R.toNat).map fun (n : Nat) => (n : Int)
def isMem (F : List Int) (L : List Cmd) (r : Int) : Bool := (decide (r ∈ F) || addedB L r) && !removedB L r
def membersR (R : Int) (F : List Int) (L : List Cmd) : List Int := (reps R).filter (isMem F L)
def orFirst (F l : List Int) : List Int := if l = [] then [F.headD 0] else l
def usableB (M R : Int) (F : List Int) : Bool := decide ((M = 1 ∨ M = 2) ∧ (1 ≤ R ∧ R ≤ 12) ∧ F ≠ [] ∧ F.Pairwise (· < ·) ∧ ∀ r ∈ F, 0 ≤ r ∧ r < R)
def membersL (M R : Int) (F : List Int) (L : List Cmd) : List Int := if usableB M R F = true then orFirst F (membersR R F L) else []
def mustP (F : List Int) (B C : List Cmd) (r : Int) : Bool := (decide (r ∈ F) || addedB B r) && !removedB C r
def mayP (F : List Int) (B C : List Cmd) (r : Int) : Bool := !mustP F B C r && ((decide (r ∈ F) || addedB C r) && !removedB B r)
def okB (M R : Int) (F : List Int) (B C : List Cmd) : Bool := usableB M R F && decide (∀ c ∈ B, confB R c = true → c ∈ C)
def mustL (M R : Int) (F : List Int) (B C : List Cmd) : List Int := if okB M R F B C = true then (reps R).filter (mustP F B C) else []
def mayL (M R : Int) (F : List Int) (B C : List Cmd) : List Int := if okB M R F B C = true then (reps R).filter (mayP F B C) else []
def worstP (F : List Int) (B C : List Cmd) (x : List Int) (r : Int) : Bool := mustP F B C r || (mayP F B C r && !decide (r ∈ x))
def worstL (R : Int) (F : List Int) (B C : List Cmd) (x : List Int) : List Int := (reps R).filter (worstP F B C x)

def sizedB (M : Int) (n : Nat) : Bool := decide ((M = 1 ∨ M = 2) ∧ 1 ≤ n ∧ n ≤ 12)
def validQ (M : Int) (l : List Int) : Bool := sizedB M l.length && decide (l.Pairwise (· < ·) ∧ ∀ r ∈ l, 0 ≤ r ∧ r < 12)
def faultsN (M : Int) (n : Nat) : Nat := if sizedB M n = true then (if M = 2 then (n - 1) / 3 else (n - 1) / 2) else 0
def needN (M : Int) (n : Nat) : Nat := if sizedB M n = true then n - faultsN M n else 0
def insideL (l x : List Int) : Nat := (l.filter fun r => decide (r ∈ x)).length
def isQ (M : Int) (l x : List Int) : Bool := validQ M l && decide (needN M l.length ≤ insideL l x)
def quorateB (M R : Int) (F : List Int) (B C : List Cmd) (x : List Int) : Bool :=
  okB M R F B C && (!decide (mustL M R F B C = []) || decide (F.headD 0 ∈ x)) && isQ M (orFirst F (worstL R F B C x)) x

/-! Counting. -/
def cnt (U : List Int) (p : Int → Bool) : Nat := (U.filter p).length
theorem cnt_split (U : List Int) (p q : Int → Bool) : cnt U p = cnt U (fun r => p r && q r) + cnt U (fun r => p r && !q r) := by
  unfold cnt
  induction U with
  | nil => rfl
  | cons a U ih =>
    simp only [List.filter_cons]
    cases p a <;> cases q a <;> simp [ih] <;> omega
theorem cnt_mono {U : List Int} {p q : Int → Bool} (h : ∀ r ∈ U, p r = true → q r = true) : cnt U p ≤ cnt U q := by
  unfold cnt
  induction U with
  | nil => simp
  | cons a U ih =>
    have ih := ih fun r hr => h r (by simp [hr])
    have ha := h a (by simp)
    simp only [List.filter_cons]
    cases hp : p a <;> cases hq : q a <;> simp [hp, hq] at ha ⊢ <;> omega
theorem cnt_or {U : List Int} {p q : Int → Bool} (h : ∀ r ∈ U, p r = true → q r = false) : cnt U (fun r => p r || q r) = cnt U p + cnt U q := by
  unfold cnt
  induction U with
  | nil => rfl
  | cons a U ih =>
    have ih := ih fun r hr => h r (by simp [hr])
    have ha := h a (by simp)
    simp only [List.filter_cons]
    cases hp : p a <;> cases hq : q a <;> simp [hp, hq, ih] at ha ⊢ <;> omega
theorem cnt_congr {U : List Int} {p q : Int → Bool} (h : ∀ r ∈ U, p r = q r) : cnt U p = cnt U q := by
  unfold cnt; rw [List.filter_congr h]
theorem cnt_zero {U : List Int} {p : Int → Bool} : cnt U p = 0 ↔ ∀ r ∈ U, p r = false := by
  unfold cnt
  rw [List.length_eq_zero_iff, List.filter_eq_nil_iff]
  simp
theorem cnt_le (U : List Int) (p : Int → Bool) : cnt U p ≤ U.length := List.length_filter_le _ _
theorem inside_filter (U : List Int) (p : Int → Bool) (x : List Int) : insideL (U.filter p) x = cnt U (fun r => p r && decide (r ∈ x)) := by
  unfold insideL cnt
  rw [List.filter_filter]
  congr 1
  exact List.filter_congr fun r _ => Bool.and_comm _ _

theorem mem_reps {R r : Int} : r ∈ reps R ↔ 0 ≤ r ∧ r < R := by
  unfold reps
  simp only [List.mem_map, List.mem_range]
  constructor
  · rintro ⟨n, h, rfl⟩; omega
  · intro h; exact ⟨r.toNat, by omega, by omega⟩
theorem reps_len (R : Int) : (reps R).length = R.toNat := by simp [reps]
theorem reps_sorted (R : Int) : (reps R).Pairwise (· < ·) := by
  unfold reps
  rw [List.pairwise_map]
  exact List.pairwise_lt_range.imp fun h => by omega

/-- More inside than outside; in the mode Lies more than twice as many. -/
def gtM (M : Int) (u a : Nat) : Bool := decide (if M = 2 then 2 * u < a else u < a)
theorem gtM_mono {M : Int} {u a u' a' : Nat} (h : gtM M u a = true) (hu : u' ≤ u) (ha : a ≤ a') : gtM M u' a' = true := by
  unfold gtM at *
  rw [decide_eq_true_eq] at *
  split at h
  · rename_i e; rw [if_pos e]; omega
  · rename_i e; rw [if_neg e]; omega
theorem gtM_pos {M : Int} {u a : Nat} (h : gtM M u a = true) : u < a := by
  unfold gtM at h
  rw [decide_eq_true_eq] at h
  split at h <;> omega

theorem valid_filter {M R : Int} (hM : M = 1 ∨ M = 2) (hR : R ≤ 12) (p : Int → Bool) (h0 : 0 < cnt (reps R) p) : validQ M ((reps R).filter p) = true := by
  unfold validQ sizedB
  have h1 := cnt_le (reps R) p
  rw [reps_len] at h1
  unfold cnt at h0 h1
  rw [Bool.and_eq_true, decide_eq_true_eq, decide_eq_true_eq]
  refine ⟨⟨hM, by omega, by omega⟩, (reps_sorted R).filter _, fun r hr => ?_⟩
  have := mem_reps.1 (List.mem_filter.1 hr).1
  omega

theorem isQ_filter {M R : Int} (hM : M = 1 ∨ M = 2) (hR : R ≤ 12) (p : Int → Bool) (x : List Int) (h0 : 0 < cnt (reps R) p) :
    isQ M ((reps R).filter p) x = gtM M (cnt (reps R) (fun r => p r && !decide (r ∈ x))) (cnt (reps R) (fun r => p r && decide (r ∈ x))) := by
  unfold isQ
  rw [valid_filter hM hR p h0, Bool.true_and, inside_filter]
  have hs := cnt_split (reps R) p (fun r => decide (r ∈ x))
  have h1 := cnt_le (reps R) p
  rw [reps_len] at h1
  have hsz : sizedB M ((reps R).filter p).length = true := by unfold sizedB; unfold cnt at h0 h1; exact decide_eq_true ⟨hM, by omega, by omega⟩
  have hl : ((reps R).filter p).length = cnt (reps R) p := rfl
  unfold needN faultsN
  rw [if_pos hsz, if_pos hsz, hl]
  unfold gtM
  rw [Bool.eq_iff_iff, decide_eq_true_eq, decide_eq_true_eq]
  rcases hM with e | e
  · rw [if_neg (by omega), if_neg (by omega)]; omega
  · rw [if_pos e, if_pos e]; omega

theorem isQ_one {M : Int} (hM : M = 1 ∨ M = 2) {f : Int} (h0 : 0 ≤ f) (h1 : f < 12) (x : List Int) : isQ M [f] x = decide (f ∈ x) := by
  have hsz : sizedB M [f].length = true := by unfold sizedB; exact decide_eq_true ⟨hM, by simp, by simp⟩
  unfold isQ validQ needN faultsN insideL
  rw [hsz, if_pos rfl, if_pos rfl]
  have : decide ([f].Pairwise (· < ·) ∧ ∀ r ∈ [f], 0 ≤ r ∧ r < 12) = true := decide_eq_true ⟨by simp, by simp; omega⟩
  rw [this]
  by_cases h : f ∈ x
  · simp [h]
  · simp [h]

/-! Usable. -/
theorem usable_parts {M R : Int} {F : List Int} (h : usableB M R F = true) : (M = 1 ∨ M = 2) ∧ (1 ≤ R ∧ R ≤ 12) ∧ F ≠ [] ∧ F.Pairwise (· < ·) ∧ ∀ r ∈ F, 0 ≤ r ∧ r < R := of_decide_eq_true h
theorem head_mem {F : List Int} (h : F ≠ []) : F.headD 0 ∈ F := by cases F with | nil => exact absurd rfl h | cons a F => simp
theorem head_bd {M R : Int} {F : List Int} (h : usableB M R F = true) : 0 ≤ F.headD 0 ∧ F.headD 0 < R := (usable_parts h).2.2.2.2 _ (head_mem (usable_parts h).2.2.1)
theorem ok_parts {M R : Int} {F : List Int} {B C : List Cmd} (h : okB M R F B C = true) : usableB M R F = true ∧ ∀ c ∈ B, confB R c = true → c ∈ C := by
  unfold okB at h
  rw [Bool.and_eq_true, decide_eq_true_eq] at h
  exact h
theorem ok_mk {M R : Int} {F : List Int} {B C : List Cmd} (h : usableB M R F = true) (hs : ∀ c ∈ B, confB R c = true → c ∈ C) : okB M R F B C = true := by
  unfold okB; rw [h, Bool.true_and]; exact decide_eq_true hs

theorem may_must {F : List Int} {B C : List Cmd} {r : Int} (h : mustP F B C r = true) : mayP F B C r = false := by unfold mayP; rw [h]; rfl

/-- The replicas outside x that may be members, and those inside x that must be. -/
def outN (R : Int) (F : List Int) (B C : List Cmd) (x : List Int) : Nat := cnt (reps R) (fun r => mustP F B C r && !decide (r ∈ x)) + cnt (reps R) (fun r => mayP F B C r && !decide (r ∈ x))
def inN (R : Int) (F : List Int) (B C : List Cmd) (x : List Int) : Nat := cnt (reps R) (fun r => mustP F B C r && decide (r ∈ x))
def quoP (M R : Int) (F : List Int) (B C : List Cmd) (x : List Int) : Prop :=
  okB M R F B C = true ∧ ((0 < cnt (reps R) (mustP F B C) ∧ gtM M (outN R F B C x) (inN R F B C x) = true) ∨ (cnt (reps R) (mustP F B C) = 0 ∧ outN R F B C x = 0 ∧ F.headD 0 ∈ x))

theorem worst_out (R : Int) (F : List Int) (B C : List Cmd) (x : List Int) : cnt (reps R) (fun r => worstP F B C x r && !decide (r ∈ x)) = outN R F B C x := by
  unfold outN
  rw [← cnt_or (fun r _ h => ?_)]
  · refine cnt_congr fun r _ => ?_
    unfold worstP
    cases mustP F B C r <;> cases mayP F B C r <;> cases decide (r ∈ x) <;> rfl
  · rw [Bool.and_eq_true] at h
    rw [may_must h.1]; rfl
theorem worst_in (R : Int) (F : List Int) (B C : List Cmd) (x : List Int) : cnt (reps R) (fun r => worstP F B C x r && decide (r ∈ x)) = inN R F B C x := by
  unfold inN
  refine cnt_congr fun r _ => ?_
  unfold worstP
  cases mustP F B C r <;> cases mayP F B C r <;> cases decide (r ∈ x) <;> rfl

theorem quorate_iff (M R : Int) (F : List Int) (B C : List Cmd) (x : List Int) : quorateB M R F B C x = true ↔ quoP M R F B C x := by
  unfold quoP quorateB
  by_cases hok : okB M R F B C = true
  · obtain ⟨hM, hR, hF, _, _⟩ := usable_parts (ok_parts hok).1
    have hh := head_bd (ok_parts hok).1
    have hmust : decide (mustL M R F B C = []) = decide (cnt (reps R) (mustP F B C) = 0) := by
      unfold mustL
      rw [if_pos hok]
      unfold cnt
      rw [Bool.eq_iff_iff, decide_eq_true_eq, decide_eq_true_eq, List.length_eq_zero_iff]
    rw [hok, hmust]
    have hw := cnt_split (reps R) (worstP F B C x) (fun r => decide (r ∈ x))
    rw [worst_out, worst_in] at hw
    have hm := cnt_split (reps R) (mustP F B C) (fun r => decide (r ∈ x))
    have hin : inN R F B C x = cnt (reps R) (fun r => mustP F B C r && decide (r ∈ x)) := rfl
    have hle : cnt (reps R) (fun r => mustP F B C r && !decide (r ∈ x)) ≤ outN R F B C x := by unfold outN; omega
    by_cases h0 : cnt (reps R) (mustP F B C) = 0
    · have hi0 : inN R F B C x = 0 := by omega
      rw [decide_eq_true h0]
      by_cases hw0 : cnt (reps R) (worstP F B C x) = 0
      · have hl : worstL R F B C x = [] := List.length_eq_zero_iff.1 hw0
        have ho : outN R F B C x = 0 := by omega
        rw [hl, orFirst, if_pos rfl, isQ_one hM hh.1 (by omega)]
        simp [h0, ho]
      · have hl : worstL R F B C x ≠ [] := fun e => hw0 (List.length_eq_zero_iff.2 e)
        have ho : outN R F B C x ≠ 0 := by omega
        rw [orFirst, if_neg hl, worstL, isQ_filter hM hR.2 _ _ (by omega), worst_out, worst_in, hi0]
        have : gtM M (outN R F B C x) 0 = false := by
          rw [Bool.eq_false_iff]; intro h; have := gtM_pos h; omega
        simp [this, h0, ho]
    · have hw0 : 0 < cnt (reps R) (worstP F B C x) := by omega
      have hl : worstL R F B C x ≠ [] := fun e => by have : cnt (reps R) (worstP F B C x) = 0 := List.length_eq_zero_iff.2 e; omega
      rw [decide_eq_false h0, orFirst, if_neg hl, worstL, isQ_filter hM hR.2 _ _ hw0, worst_out, worst_in]
      simp [h0, Nat.pos_of_ne_zero h0]
  · rw [Bool.not_eq_true] at hok
    rw [hok]; simp

/-- Quorate as a count. -/
theorem quorate_counts {M R : Int} {F : List Int} {B C : List Cmd} (hok : okB M R F B C = true) (x : List Int) :
    quorateB M R F B C x = if cnt (reps R) (mustP F B C) = 0 then decide (outN R F B C x = 0 ∧ F.headD 0 ∈ x) else gtM M (outN R F B C x) (inN R F B C x) := by
  rw [Bool.eq_iff_iff, quorate_iff]
  unfold quoP
  rw [hok]
  by_cases h0 : cnt (reps R) (mustP F B C) = 0
  · rw [if_pos h0]; simp [h0]
  · rw [if_neg h0]; simp [h0, Nat.pos_of_ne_zero h0]

/-! A configuration between two others. -/
def between (R : Int) (B D C : List Cmd) : Prop := ∀ r, 0 ≤ r → r < R → (addedB B r = true → addedB D r = true) ∧ (addedB D r = true → addedB C r = true) ∧ (removedB B r = true → removedB D r = true) ∧ (removedB D r = true → removedB C r = true)

theorem must_mem {R : Int} {F : List Int} {B D C : List Cmd} (h : between R B D C) {r : Int} (h0 : 0 ≤ r) (h1 : r < R) (hm : mustP F B C r = true) : isMem F D r = true := by
  obtain ⟨a, _, _, d⟩ := h r h0 h1
  unfold mustP at hm
  unfold isMem
  revert a d hm
  cases decide (r ∈ F) <;> cases addedB B r <;> cases addedB D r <;> cases removedB C r <;> cases removedB D r <;> simp
theorem mem_may {R : Int} {F : List Int} {B D C : List Cmd} (h : between R B D C) {r : Int} (h0 : 0 ≤ r) (h1 : r < R) (hm : isMem F D r = true) : mustP F B C r = true ∨ mayP F B C r = true := by
  obtain ⟨_, b, c, _⟩ := h r h0 h1
  unfold isMem at hm
  unfold mayP
  revert b c hm
  cases mustP F B C r <;> cases decide (r ∈ F) <;> cases addedB C r <;> cases addedB D r <;> cases removedB B r <;> cases removedB D r <;> simp

/-- A quorum of a whole interval is a quorum of each configuration in it. -/
theorem every {M R : Int} {F : List Int} {B D C : List Cmd} {x : List Int} (hq : quoP M R F B C x) (hb : between R B D C) : isQ M (membersL M R F D) x = true := by
  obtain ⟨hok, hq⟩ := hq
  have hu := (ok_parts hok).1
  obtain ⟨hM, hR, hF, _, _⟩ := usable_parts hu
  have hh := head_bd hu
  unfold membersL
  rw [if_pos hu]
  have hin : inN R F B C x ≤ cnt (reps R) (fun r => isMem F D r && decide (r ∈ x)) := by
    unfold inN
    refine cnt_mono fun r hr h => ?_
    rw [Bool.and_eq_true] at h ⊢
    have := mem_reps.1 hr
    exact ⟨must_mem hb this.1 this.2 h.1, h.2⟩
  have hout : cnt (reps R) (fun r => isMem F D r && !decide (r ∈ x)) ≤ outN R F B C x := by
    unfold outN
    rw [← cnt_or (fun r _ h => by rw [Bool.and_eq_true] at h; rw [may_must h.1]; rfl)]
    refine cnt_mono fun r hr h => ?_
    rw [Bool.and_eq_true] at h
    have := mem_reps.1 hr
    rcases mem_may hb this.1 this.2 h.1 with e | e
    · rw [e, h.2]; rfl
    · rw [e, h.2]; simp
  have hs := cnt_split (reps R) (isMem F D) (fun r => decide (r ∈ x))
  by_cases h0 : cnt (reps R) (isMem F D) = 0
  · have hl : membersR R F D = [] := List.length_eq_zero_iff.1 h0
    rw [hl, orFirst, if_pos rfl, isQ_one hM hh.1 (by omega)]
    rcases hq with ⟨_, hg⟩ | ⟨_, _, hg⟩
    · have := gtM_pos hg; omega
    · exact decide_eq_true hg
  · have hl : membersR R F D ≠ [] := fun e => h0 (List.length_eq_zero_iff.2 e)
    rw [orFirst, if_neg hl, membersR, isQ_filter hM hR.2 _ _ (by omega)]
    rcases hq with ⟨_, hg⟩ | ⟨_, hg, _⟩
    · exact gtM_mono hg hout hin
    · unfold gtM
      refine decide_eq_true ?_
      split <;> omega

/-- .. and of each interval in it. -/
theorem narrows {M R : Int} {F : List Int} {B C B' C' : List Cmd} {x : List Int} (hq : quoP M R F B C x) (hok' : okB M R F B' C' = true) (hb : between R B B' C) (hc : between R B C' C) (hbc : between R B B' C') : quoP M R F B' C' x := by
  obtain ⟨hok, hq⟩ := hq
  have hm : ∀ r ∈ reps R, mustP F B C r = true → mustP F B' C' r = true := fun r hr h => by
    have hr := mem_reps.1 hr
    obtain ⟨a, _, _, _⟩ := hb r hr.1 hr.2
    obtain ⟨_, _, _, d⟩ := hc r hr.1 hr.2
    unfold mustP at *
    revert a d h
    cases decide (r ∈ F) <;> cases addedB B r <;> cases addedB B' r <;> cases removedB C r <;> cases removedB C' r <;> simp
  have ho : ∀ r ∈ reps R, (mustP F B' C' r || mayP F B' C' r) = true → (mustP F B C r || mayP F B C r) = true := fun r hr h => by
    have hr := mem_reps.1 hr
    obtain ⟨a1, a2, a3, a4⟩ := hb r hr.1 hr.2
    obtain ⟨b1, b2, b3, b4⟩ := hc r hr.1 hr.2
    obtain ⟨c1, c2, c3, c4⟩ := hbc r hr.1 hr.2
    unfold mayP mustP at *
    revert a1 a2 a3 a4 b1 b2 b3 b4 c1 c2 c3 c4 h
    cases decide (r ∈ F) <;> cases addedB B r <;> cases addedB B' r <;> cases addedB C r <;> cases addedB C' r <;> cases removedB B r <;> cases removedB B' r <;> cases removedB C r <;> cases removedB C' r <;> simp
  have hor : ∀ B C : List Cmd, outN R F B C x = cnt (reps R) (fun r => (mustP F B C r || mayP F B C r) && !decide (r ∈ x)) := fun B C => by
    unfold outN
    rw [← cnt_or (fun r _ h => by rw [Bool.and_eq_true] at h; rw [may_must h.1]; rfl)]
    exact cnt_congr fun r _ => by cases mustP F B C r <;> cases mayP F B C r <;> cases decide (r ∈ x) <;> rfl
  have hout : outN R F B' C' x ≤ outN R F B C x := by
    rw [hor, hor]
    refine cnt_mono fun r hr h => ?_
    rw [Bool.and_eq_true] at h ⊢
    exact ⟨ho r hr h.1, h.2⟩
  have hin : inN R F B C x ≤ inN R F B' C' x := by
    unfold inN
    refine cnt_mono fun r hr h => ?_
    rw [Bool.and_eq_true] at h ⊢
    exact ⟨hm r hr h.1, h.2⟩
  have hmm := cnt_mono hm
  refine ⟨hok', ?_⟩
  rcases hq with ⟨h1, hg⟩ | ⟨h1, hg, h2⟩
  · exact .inl ⟨by omega, gtM_mono hg hout hin⟩
  · by_cases h0 : cnt (reps R) (mustP F B' C') = 0
    · exact .inr ⟨h0, by omega, h2⟩
    · refine .inl ⟨by omega, ?_⟩
      have hs := cnt_split (reps R) (mustP F B' C') (fun r => decide (r ∈ x))
      have hz : outN R F B' C' x = 0 := by omega
      have hle : cnt (reps R) (fun r => mustP F B' C' r && !decide (r ∈ x)) ≤ outN R F B' C' x := by unfold outN; omega
      have hi : inN R F B' C' x = cnt (reps R) (fun r => mustP F B' C' r && decide (r ∈ x)) := rfl
      unfold gtM
      refine decide_eq_true ?_
      split <;> omega

/-- Two quorums of the same members meet. -/
theorem meets {M : Int} {l x y : List Int} (hx : isQ M l x = true) (hy : isQ M l y = true) : 0 < insideL (l.filter fun r => decide (r ∈ x)) y ∧ (M = 2 → faultsN M l.length < insideL (l.filter fun r => decide (r ∈ x)) y) := by
  unfold isQ at hx hy
  rw [Bool.and_eq_true, decide_eq_true_eq] at hx hy
  obtain ⟨hv, hx⟩ := hx
  obtain ⟨_, hy⟩ := hy
  unfold validQ at hv
  rw [Bool.and_eq_true] at hv
  have hsz := hv.1
  have hs := of_decide_eq_true hsz
  unfold needN at hx hy
  rw [if_pos hsz] at hx hy
  unfold faultsN at *
  rw [if_pos hsz] at hx hy ⊢
  have s1 := cnt_split l (fun _ => true) (fun r => decide (r ∈ x))
  have s2 := cnt_split l (fun r => decide (r ∈ y)) (fun r => decide (r ∈ x))
  have e1 : insideL l x = cnt l (fun r => true && decide (r ∈ x)) := rfl
  have e2 : insideL l y = cnt l (fun r => decide (r ∈ y)) := rfl
  have e3 : insideL (l.filter fun r => decide (r ∈ x)) y = cnt l (fun r => decide (r ∈ y) && decide (r ∈ x)) := by
    rw [inside_filter]; exact cnt_congr fun r _ => Bool.and_comm _ _
  have e4 : cnt l (fun _ => true) = l.length := by simp [cnt]
  have e5 : cnt l (fun r => decide (r ∈ y) && !decide (r ∈ x)) ≤ cnt l (fun r => true && !decide (r ∈ x)) := cnt_mono fun r _ h => by rw [Bool.and_eq_true] at h; rw [h.2]; rfl
  obtain ⟨hM, h1, h2⟩ := hs
  rcases hM with e | e
  · rw [if_neg (by omega)] at hx hy
    exact ⟨by omega, fun h => by omega⟩
  · rw [if_pos e] at hx hy ⊢
    exact ⟨by omega, fun _ => by omega⟩
end Go.Proofs.Ytahpecbcpgjinaa
