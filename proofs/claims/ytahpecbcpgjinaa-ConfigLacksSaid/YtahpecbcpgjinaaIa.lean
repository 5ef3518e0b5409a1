/-
  Chapter 39: the plain law of the enumeration: what the closed form says is what all configurations of the interval say.
-/
import Derived.Test.YtahpecbcpgjinaaDc
namespace Go.Proofs.Ytahpecbcpgjinaa
open Go.RowKit

def restL (b c : List Cmd) : List Cmd := c.filter fun x => !decide (x ∈ b)
/-- All configurations: the first one, and every choice of the rest behind it. -/
def enumL (b rest : List Cmd) : List (List Cmd) := rest.foldl (fun out x => out ++ out.map (· ++ [x])) [b]
theorem enumL_snoc (b rest : List Cmd) (x : Cmd) : enumL b (rest ++ [x]) = enumL b rest ++ (enumL b rest).map (· ++ [x]) := by
  unfold enumL; rw [List.foldl_append]; rfl
theorem list_rev {α : Type} {p : List α → Prop} (h0 : p []) (h1 : ∀ l x, p l → p (l ++ [x])) (l : List α) : p l := by
  have : ∀ n (l : List α), l.length = n → p l := by
    intro n
    induction n with
    | zero => intro l hl; rw [List.length_eq_zero_iff.1 hl]; exact h0
    | succ n ih =>
      intro l hl
      have hne : l ≠ [] := by rintro rfl; simp at hl
      rw [← List.dropLast_concat_getLast hne]
      exact h1 _ _ (ih _ (by rw [List.length_dropLast]; omega))
  exact this _ l rfl
theorem enumL_len (b rest : List Cmd) : (enumL b rest).length = 2 ^ rest.length := by
  induction rest using list_rev with
  | h0 => rfl
  | h1 l x ih => rw [enumL_snoc, List.length_append, List.length_map, ih, List.length_append, List.length_singleton, Nat.pow_succ]; omega
theorem enumL_sub {b rest D : List Cmd} (h : D ∈ enumL b rest) : ∃ s, s.Sublist rest ∧ D = b ++ s := by
  induction rest using list_rev generalizing D with
  | h0 => exact ⟨[], List.Sublist.refl _, by simpa [enumL] using h⟩
  | h1 l x ih =>
    rw [enumL_snoc] at h
    rcases List.mem_append.1 h with h | h
    · obtain ⟨s, hs, rfl⟩ := ih h
      exact ⟨s, hs.trans (List.sublist_append_left _ _), rfl⟩
    · obtain ⟨D', h', rfl⟩ := List.mem_map.1 h
      obtain ⟨s, hs, rfl⟩ := ih h'
      exact ⟨s ++ [x], hs.append (List.Sublist.refl _), by rw [List.append_assoc]⟩
theorem enumL_all (b rest : List Cmd) (p : Cmd → Bool) : b ++ rest.filter p ∈ enumL b rest := by
  induction rest using list_rev with
  | h0 => simp [enumL]
  | h1 l x ih =>
    rw [enumL_snoc, List.filter_append]
    by_cases hp : p x = true
    · refine List.mem_append_right _ (List.mem_map.2 ⟨_, ih, ?_⟩)
      simp [hp]
    · refine List.mem_append_left _ ?_
      simpa [hp] using ih
theorem enumL_dlen {b rest D : List Cmd} (h : D ∈ enumL b rest) : D.length ≤ b.length + rest.length := by
  obtain ⟨s, hs, rfl⟩ := enumL_sub h
  have := hs.length_le
  rw [List.length_append]; omega
theorem sub_len {α : Type} [DecidableEq α] : ∀ {b L : List α}, b.Nodup → (∀ x ∈ b, x ∈ L) → b.length ≤ L.length
  | [], _, _, _ => Nat.zero_le _
  | x :: b, L, hn, hs => by
    rw [List.nodup_cons] at hn
    have h1 : ∀ y ∈ b, y ∈ L.erase x := fun y hy => (List.mem_erase_of_ne (by rintro rfl; exact hn.1 hy)).2 (hs y (List.mem_cons_of_mem _ hy))
    have h2 := sub_len hn.2 h1
    have h3 := List.length_erase_of_mem (hs x (List.mem_cons_self ..))
    have h4 : 0 < L.length := List.length_pos_of_mem (hs x (List.mem_cons_self ..))
    rw [List.length_cons]; omega
theorem filter_both {α : Type} (p : α → Bool) : ∀ L : List α, (L.filter p).length + (L.filter fun x => !p x).length = L.length
  | [] => rfl
  | x :: L => by
    have := filter_both p L
    by_cases h : p x = true
    · simp [h]; omega
    · simp [h]; omega
theorem restL_len {b c : List Cmd} (hb : b.Nodup) (hs : ∀ x ∈ b, x ∈ c) : (restL b c).length + b.length ≤ c.length := by
  have h1 := filter_both (fun x => decide (x ∈ b)) c
  have h2 := sub_len (L := c.filter fun x => decide (x ∈ b)) hb (fun x hx => List.mem_filter.2 ⟨hs x hx, decide_eq_true hx⟩)
  unfold restL
  omega
theorem restL_le (b c : List Cmd) : (restL b c).length ≤ c.length := List.length_filter_le _ _
theorem restL_mem {b c : List Cmd} {x : Cmd} : x ∈ restL b c ↔ x ∈ c ∧ x ∉ b := by unfold restL; simp

/-- All configurations of the interval. -/
def allE (R : Int) (B C : List Cmd) : List (List Cmd) := enumL (confL R B) (restL (confL R B) (confL R C))

/-- A choice: of a replica with q its removals, else its additions. -/
def pickQ (q : Int → Bool) (c : Cmd) : Bool := if kindC c = 2 then !q (repC c) else q (repC c)
def someD (R : Int) (B C : List Cmd) (q : Int → Bool) : List Cmd := confL R B ++ (restL (confL R B) (confL R C)).filter (pickQ q)
theorem someD_mem (R : Int) (B C : List Cmd) (q : Int → Bool) : someD R B C q ∈ allE R B C := enumL_all _ _ _

section
variable {M R : Int} {F : List Int} {B C : List Cmd}
theorem conf_of {c : Cmd} {r : Int} (h0 : 0 ≤ r) (h1 : r < R) (hk : kindC c = 2 ∨ kindC c = 3) (hr : repC c = r) : confB R c = true := decide_eq_true ⟨hk, by omega, by omega⟩
theorem in_someD {q : Int → Bool} {c : Cmd} : c ∈ someD R B C q ↔ (c ∈ B ∧ confB R c = true) ∨ (c ∈ C ∧ confB R c = true ∧ ¬ (c ∈ B ∧ confB R c = true) ∧ pickQ q c = true) := by
  unfold someD
  rw [List.mem_append, List.mem_filter, restL_mem, confL_mem, confL_mem]
  exact ⟨fun h => h.elim .inl fun ⟨⟨⟨a, b⟩, d⟩, e⟩ => .inr ⟨a, b, d, e⟩, fun h => h.elim .inl fun ⟨a, b, d, e⟩ => .inr ⟨⟨⟨a, b⟩, d⟩, e⟩⟩
theorem allE_conf {D : List Cmd} (h : D ∈ allE R B C) : (∀ c ∈ B, confB R c = true → c ∈ D) ∧ (∀ c ∈ D, confB R c = true) ∧ ∀ c ∈ D, c ∈ B ∨ c ∈ C := by
  obtain ⟨s, hs, rfl⟩ := enumL_sub h
  refine ⟨fun c hc hf => List.mem_append_left _ (confL_mem.2 ⟨hc, hf⟩), fun c hc => ?_, fun c hc => ?_⟩
  · rcases List.mem_append.1 hc with h | h
    · exact (confL_mem.1 h).2
    · exact (confL_mem.1 (restL_mem.1 (hs.subset h)).1).2
  · rcases List.mem_append.1 hc with h | h
    · exact .inl (confL_mem.1 h).1
    · exact .inr (confL_mem.1 (restL_mem.1 (hs.subset h)).1).1
theorem allE_between (hs : ∀ c ∈ B, confB R c = true → c ∈ C) {D : List Cmd} (h : D ∈ allE R B C) : (∀ c ∈ B, confB R c = true → c ∈ D) ∧ (∀ c ∈ D, confB R c = true → c ∈ C) := by
  obtain ⟨h1, h2, h3⟩ := allE_conf h
  exact ⟨h1, fun c hc hf => (h3 c hc).elim (fun h => hs c h hf) id⟩
theorem someD_isMem (hs : ∀ c ∈ B, confB R c = true → c ∈ C) (q : Int → Bool) {r : Int} (h0 : 0 ≤ r) (h1 : r < R) :
    isMem F (someD R B C q) r = (mustP F B C r || (mayP F B C r && !q r)) := by
  have ha : addedB B r = true → addedB C r = true := fun h => by
    obtain ⟨c, hc, a, b⟩ := of_decide_eq_true h
    exact decide_eq_true ⟨c, hs c hc (conf_of h0 h1 (.inl a) b), a, b⟩
  have hr : removedB B r = true → removedB C r = true := fun h => by
    obtain ⟨c, hc, a, b⟩ := of_decide_eq_true h
    exact decide_eq_true ⟨c, hs c hc (conf_of h0 h1 (.inr a) b), a, b⟩
  have h3 : ¬ (3 : Int) = 2 := by decide
  by_cases hq : q r = true
  · have e1 : addedB (someD R B C q) r = addedB B r := by
      unfold addedB
      rw [Bool.eq_iff_iff, decide_eq_true_eq, decide_eq_true_eq]
      constructor
      · rintro ⟨c, hc, a, b⟩
        rcases in_someD.1 hc with h | ⟨_, _, _, h⟩
        · exact ⟨c, h.1, a, b⟩
        · unfold pickQ at h; rw [if_pos a, b, hq] at h; cases h
      · rintro ⟨c, hc, a, b⟩; exact ⟨c, in_someD.2 (.inl ⟨hc, conf_of h0 h1 (.inl a) b⟩), a, b⟩
    have e2 : removedB (someD R B C q) r = removedB C r := by
      unfold removedB
      rw [Bool.eq_iff_iff, decide_eq_true_eq, decide_eq_true_eq]
      constructor
      · rintro ⟨c, hc, a, b⟩
        rcases in_someD.1 hc with h | ⟨h, _⟩
        · exact ⟨c, hs c h.1 h.2, a, b⟩
        · exact ⟨c, h, a, b⟩
      · rintro ⟨c, hc, a, b⟩
        have hf := conf_of h0 h1 (.inr a) b
        refine ⟨c, in_someD.2 ?_, a, b⟩
        by_cases hb : c ∈ B
        · exact .inl ⟨hb, hf⟩
        · exact .inr ⟨hc, hf, fun h => hb h.1, by unfold pickQ; rw [if_neg (by rw [a]; exact h3), b, hq]⟩
    unfold isMem
    rw [e1, e2, hq, Bool.not_true, Bool.and_false, Bool.or_false]
    rfl
  · rw [Bool.not_eq_true] at hq
    have e1 : addedB (someD R B C q) r = addedB C r := by
      unfold addedB
      rw [Bool.eq_iff_iff, decide_eq_true_eq, decide_eq_true_eq]
      constructor
      · rintro ⟨c, hc, a, b⟩
        rcases in_someD.1 hc with h | ⟨h, _⟩
        · exact ⟨c, hs c h.1 h.2, a, b⟩
        · exact ⟨c, h, a, b⟩
      · rintro ⟨c, hc, a, b⟩
        have hf := conf_of h0 h1 (.inl a) b
        refine ⟨c, in_someD.2 ?_, a, b⟩
        by_cases hb : c ∈ B
        · exact .inl ⟨hb, hf⟩
        · exact .inr ⟨hc, hf, fun h => hb h.1, by unfold pickQ; rw [if_pos a, b, hq]; rfl⟩
    have e2 : removedB (someD R B C q) r = removedB B r := by
      unfold removedB
      rw [Bool.eq_iff_iff, decide_eq_true_eq, decide_eq_true_eq]
      constructor
      · rintro ⟨c, hc, a, b⟩
        rcases in_someD.1 hc with h | ⟨_, _, _, h⟩
        · exact ⟨c, h.1, a, b⟩
        · unfold pickQ at h; rw [if_neg (by rw [a]; exact h3), b, hq] at h; cases h
      · rintro ⟨c, hc, a, b⟩; exact ⟨c, in_someD.2 (.inl ⟨hc, conf_of h0 h1 (.inr a) b⟩), a, b⟩
    unfold isMem mayP mustP
    rw [e1, e2, hq]
    revert ha hr
    cases decide (r ∈ F) <;> cases addedB B r <;> cases addedB C r <;> cases removedB B r <;> cases removedB C r <;> simp

theorem mem_membersR {D : List Cmd} {r : Int} : r ∈ membersR R F D ↔ (0 ≤ r ∧ r < R) ∧ isMem F D r = true := by unfold membersR; rw [List.mem_filter, mem_reps]
theorem someD_members (hs : ∀ c ∈ B, confB R c = true → c ∈ C) (q : Int → Bool) : membersR R F (someD R B C q) = (reps R).filter fun r => mustP F B C r || (mayP F B C r && !q r) := by
  unfold membersR
  exact List.filter_congr fun r hr => someD_isMem hs q (mem_reps.1 hr).1 (mem_reps.1 hr).2
theorem worst_members (hs : ∀ c ∈ B, confB R c = true → c ∈ C) (x : List Int) : membersR R F (someD R B C fun r => decide (r ∈ x)) = worstL R F B C x := by
  rw [someD_members hs]; rfl
theorem low_members (hs : ∀ c ∈ B, confB R c = true → c ∈ C) : membersR R F (someD R B C fun _ => true) = (reps R).filter (mustP F B C) := by
  rw [someD_members hs]; exact List.filter_congr fun r _ => by simp

theorem must_iff (hs : ∀ c ∈ B, confB R c = true → c ∈ C) {r : Int} (h0 : 0 ≤ r) (h1 : r < R) : (∀ D ∈ allE R B C, r ∈ membersR R F D) ↔ mustP F B C r = true := by
  constructor
  · intro h
    have := h _ (someD_mem R B C fun _ => true)
    rw [low_members hs, List.mem_filter] at this
    exact this.2
  · intro h D hD
    obtain ⟨a, b⟩ := allE_between hs hD
    exact mem_membersR.2 ⟨⟨h0, h1⟩, must_mem (between_of a b) h0 h1 h⟩
theorem some_iff (hs : ∀ c ∈ B, confB R c = true → c ∈ C) {r : Int} (h0 : 0 ≤ r) (h1 : r < R) : (∃ D ∈ allE R B C, r ∈ membersR R F D) ↔ (mustP F B C r = true ∨ mayP F B C r = true) := by
  constructor
  · rintro ⟨D, hD, hr⟩
    obtain ⟨a, b⟩ := allE_between hs hD
    exact mem_may (between_of a b) h0 h1 (mem_membersR.1 hr).2
  · intro h
    refine ⟨_, someD_mem R B C fun _ => false, ?_⟩
    rw [someD_members hs, List.mem_filter]
    refine ⟨mem_reps.2 ⟨h0, h1⟩, ?_⟩
    rcases h with h | h <;> simp [h]

/-- In how many configurations. -/
def inD (R : Int) (F : List Int) (B C : List Cmd) (r : Int) : Nat := ((allE R B C).filter fun D => decide (r ∈ membersR R F D)).length
def partP (R : Int) (F : List Int) (B C : List Cmd) (every : Bool) (r : Int) : Bool :=
  (every && decide (inD R F B C r = (allE R B C).length)) || (!every && (decide (0 < inD R F B C r) && decide (inD R F B C r < (allE R B C).length)))
def partE (M R : Int) (F : List Int) (B C : List Cmd) (every : Bool) : List Int := if okB M R F B C = true then (reps R).filter (partP R F B C every) else []
theorem inD_all {r : Int} : inD R F B C r = (allE R B C).length ↔ ∀ D ∈ allE R B C, r ∈ membersR R F D := by
  unfold inD
  rw [List.length_filter_eq_length_iff]
  simp
theorem inD_some {r : Int} : 0 < inD R F B C r ↔ ∃ D ∈ allE R B C, r ∈ membersR R F D := by
  unfold inD
  rw [List.length_pos_iff_exists_mem]
  simp [List.mem_filter]
theorem inD_le {r : Int} : inD R F B C r ≤ (allE R B C).length := List.length_filter_le _ _
theorem part_must : partE M R F B C true = mustL M R F B C := by
  unfold partE mustL
  by_cases h : okB M R F B C = true
  · rw [if_pos h, if_pos h]
    refine List.filter_congr fun r hr => ?_
    obtain ⟨h0, h1⟩ := mem_reps.1 hr
    have := must_iff (F := F) (ok_parts h).2 h0 h1
    rw [← inD_all] at this
    unfold partP
    rw [Bool.true_and, Bool.not_true, Bool.false_and, Bool.or_false, Bool.eq_iff_iff, decide_eq_true_eq]
    exact this
  · rw [if_neg h, if_neg h]
theorem part_may : partE M R F B C false = mayL M R F B C := by
  unfold partE mayL
  by_cases h : okB M R F B C = true
  · rw [if_pos h, if_pos h]
    refine List.filter_congr fun r hr => ?_
    obtain ⟨h0, h1⟩ := mem_reps.1 hr
    have h2 := must_iff (F := F) (ok_parts h).2 h0 h1
    have h3 := some_iff (F := F) (ok_parts h).2 h0 h1
    rw [← inD_all] at h2
    rw [← inD_some] at h3
    have hle := @inD_le R F B C r
    unfold partP
    rw [Bool.false_and, Bool.not_false, Bool.true_and, Bool.false_or, Bool.eq_iff_iff, Bool.and_eq_true, decide_eq_true_eq, decide_eq_true_eq, h3]
    constructor
    · rintro ⟨a, b⟩
      rcases a with a | a
      · have := h2.2 a; omega
      · exact a
    · intro a
      refine ⟨.inr a, Nat.lt_of_le_of_ne hle fun e => ?_⟩
      rw [may_must (h2.1 e)] at a
      cases a
  · rw [if_neg h, if_neg h]

/-- Members of some configuration. -/
def reachE (M R : Int) (F : List Int) (B C : List Cmd) : List Int := if okB M R F B C = true then (reps R).filter (fun r => decide (∃ D ∈ allE R B C, r ∈ membersL M R F D)) else []
theorem members_or (hu : usableB M R F = true) (D : List Cmd) : membersL M R F D = orFirst F (membersR R F D) := by unfold membersL; rw [if_pos hu]
theorem reach_enum : reachE M R F B C = reachL M R F B C := by
  unfold reachE reachL
  by_cases h : okB M R F B C = true
  · rw [if_pos h, if_pos h]
    have hs := (ok_parts h).2
    have hu := (ok_parts h).1
    refine List.filter_congr fun r hr => ?_
    obtain ⟨h0, h1⟩ := mem_reps.1 hr
    have hml : mustL M R F B C = (reps R).filter (mustP F B C) := by unfold mustL; rw [if_pos h]
    unfold reachP
    rw [Bool.eq_iff_iff, decide_eq_true_eq, Bool.or_eq_true, Bool.or_eq_true, Bool.and_eq_true, decide_eq_true_eq, decide_eq_true_eq]
    constructor
    · rintro ⟨D, hD, hm⟩
      rw [members_or hu] at hm
      unfold orFirst at hm
      by_cases he : membersR R F D = []
      · rw [if_pos he, List.mem_singleton] at hm
        refine .inr ⟨?_, hm⟩
        rw [hml, List.filter_eq_nil_iff]
        intro s hs' hms
        have hb := mem_reps.1 hs'
        have := (must_iff (F := F) hs hb.1 hb.2).2 hms D hD
        rw [he] at this
        cases this
      · rw [if_neg he] at hm
        exact .inl ((some_iff hs h0 h1).1 ⟨D, hD, hm⟩)
    · rintro (hm | ⟨he, hr⟩)
      · obtain ⟨D, hD, hm⟩ := (some_iff (F := F) hs h0 h1).2 hm
        refine ⟨D, hD, ?_⟩
        rw [members_or hu]
        unfold orFirst
        rw [if_neg (by intro he; rw [he] at hm; cases hm)]
        exact hm
      · refine ⟨_, someD_mem R B C fun _ => true, ?_⟩
        rw [members_or hu, low_members hs, ← hml, he]
        unfold orFirst
        rw [if_pos rfl, hr]
        exact List.mem_singleton.2 rfl
  · rw [if_neg h, if_neg h]

theorem mustL_ok (h : okB M R F B C = true) : mustL M R F B C = (reps R).filter (mustP F B C) := by unfold mustL; rw [if_pos h]
/-- Quorate is a quorum of each configuration. -/
theorem quorate_all (h : okB M R F B C = true) (x : List Int) : quorateB M R F B C x = decide (∀ D ∈ allE R B C, isQ M (membersL M R F D) x = true) := by
  have hs := (ok_parts h).2
  have hu := (ok_parts h).1
  rw [Bool.eq_iff_iff, decide_eq_true_eq]
  constructor
  · intro hq D hD
    obtain ⟨a, b⟩ := allE_between hs hD
    exact quorate_every hq a b
  · intro hall
    have hw := hall _ (someD_mem R B C fun r => decide (r ∈ x))
    have hl := hall _ (someD_mem R B C fun _ => true)
    rw [members_or hu, worst_members hs] at hw
    rw [members_or hu, low_members hs, ← mustL_ok h] at hl
    unfold quorateB
    rw [h, hw, Bool.true_and, Bool.and_true, Bool.or_eq_true, decide_eq_true_eq]
    by_cases he : mustL M R F B C = []
    · rw [he] at hl
      unfold orFirst at hl
      rw [if_pos rfl, isQ_one (usable_parts hu).1 (head_bd hu).1 (by have := head_bd hu; have := (usable_parts hu).2.1; omega), decide_eq_true_eq] at hl
      exact .inr hl
    · exact .inl (by simp [he])
end
end Go.Proofs.Ytahpecbcpgjinaa
