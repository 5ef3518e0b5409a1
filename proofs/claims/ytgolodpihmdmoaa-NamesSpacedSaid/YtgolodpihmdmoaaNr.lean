/-
  Chapter 02: the plain law of reading: what the text of a set, with blanks between its tokens, is read as; what is read is no longer than its source.
-/
import Derived.Test.YtgolodpihmdmoaaNo
namespace Go.Proofs.Ytgolodpihmdmoaa
open Go.RowKit Go.Sort

def Blank (g : Str) : Prop := ∀ c ∈ g, c = 32

theorem run_at {p : UInt8 → Bool} {pre g suf : Str} (hg : ∀ c ∈ g, p c = true) (hs : ∀ c r, suf = c :: r → p c = false) : ((pre ++ (g ++ suf)).drop pre.length).takeWhile p = g := by
  rw [List.drop_left, List.takeWhile_append_of_pos hg]
  cases suf with
  | nil => simp
  | cons c r => rw [List.takeWhile_cons_of_neg (by rw [hs c r rfl]; exact Bool.false_ne_true), List.append_nil]

theorem skip_at {pre g suf : Str} (hg : Blank g) (hs : ∀ c r, suf = c :: r → c ≠ 32) : skipL (pre ++ (g ++ suf)) pre.length = pre.length + g.length := by
  unfold skipL
  rw [run_at (fun c hc => by rw [hg c hc]; rfl) (fun c r h => by simpa using hs c r h)]

theorem word_at {pre wd suf : Str} (hg : ∀ c ∈ wd, wb c = true) (hs : ∀ c r, suf = c :: r → wb c = false) : wordEnd (pre ++ (wd ++ suf)) pre.length = pre.length + wd.length ∧ wordAt (pre ++ (wd ++ suf)) pre.length = wd := by
  unfold wordEnd wordAt
  rw [run_at hg hs]
  exact ⟨rfl, rfl⟩

theorem byte_at_pre {pre : Str} {c : UInt8} {r : Str} : byteAt (pre ++ c :: r) pre.length = c := by
  unfold byteAt
  simp [List.getD_eq_getElem?_getD]

/-- What stands between '{' and '}': each name with the blanks before and behind it. -/
def itemsText : List (Str × Str × Str) → Str
  | [] => []
  | [(a, n, b)] => a ++ (n ++ b)
  | (a, n, b) :: i :: r => a ++ (n ++ (b ++ 44 :: itemsText (i :: r)))

/-- What reading it comes to. -/
def spacedF : Nat → List Str → List (Str × Str × Str) → List Str × Int × Nat
  | _, out, [] => (out, 0, 0)
  | pos, out, [(a, n, b)] => if n ∈ out then ([], 3, pos + a.length) else (out ++ [n], 0, pos + a.length + n.length + b.length + 1)
  | pos, out, (a, n, b) :: i :: r => if n ∈ out then ([], 3, pos + a.length) else spacedF (pos + a.length + n.length + b.length + 1) (out ++ [n]) (i :: r)

theorem valid_wb {n : Str} (h : validL n = true) : (∀ c ∈ n, wb c = true) ∧ ∃ c r, n = c :: r := by
  rw [validL_def] at h
  simp only [Bool.and_eq_true] at h
  refine ⟨List.all_eq_true.1 h.2, ?_⟩
  cases n with
  | nil => simp at h
  | cons c r => exact ⟨c, r, rfl⟩

theorem wb_32 {c : UInt8} (h : wb c = true) : c ≠ 32 := by intro e; subst e; exact absurd h (by decide)

/-- One name of the list, read: up to the byte behind it. -/
theorem one_item {pre a n b : Str} {d : UInt8} {suf : Str} (ha : Blank a) (hb : Blank b) (hn : validL n = true) (hd : d ≠ 32) (hdw : wb d = false) :
    skipL (pre ++ (a ++ (n ++ (b ++ d :: suf)))) pre.length = pre.length + a.length ∧ wb (byteAt (pre ++ (a ++ (n ++ (b ++ d :: suf)))) (pre.length + a.length)) = true ∧
    wordAt (pre ++ (a ++ (n ++ (b ++ d :: suf)))) (pre.length + a.length) = n ∧ wordEnd (pre ++ (a ++ (n ++ (b ++ d :: suf)))) (pre.length + a.length) = pre.length + a.length + n.length ∧
    skipL (pre ++ (a ++ (n ++ (b ++ d :: suf)))) (pre.length + a.length + n.length) = pre.length + a.length + n.length + b.length ∧
    byteAt (pre ++ (a ++ (n ++ (b ++ d :: suf)))) (pre.length + a.length + n.length + b.length) = d := by
  obtain ⟨hw, c, r, hcr⟩ := valid_wb hn
  have hc : wb c = true := hw c (by rw [hcr]; simp)
  have e1 : pre ++ (a ++ (n ++ (b ++ d :: suf))) = (pre ++ a) ++ (n ++ (b ++ d :: suf)) := by simp
  have e2 : pre ++ (a ++ (n ++ (b ++ d :: suf))) = (pre ++ a ++ n) ++ (b ++ d :: suf) := by simp
  have e3 : pre ++ (a ++ (n ++ (b ++ d :: suf))) = (pre ++ a ++ n ++ b) ++ d :: suf := by simp
  have l1 : (pre ++ a).length = pre.length + a.length := by simp
  have l2 : (pre ++ a ++ n).length = pre.length + a.length + n.length := by simp; omega
  have l3 : (pre ++ a ++ n ++ b).length = pre.length + a.length + n.length + b.length := by simp; omega
  have hnext : ∀ c r, b ++ d :: suf = c :: r → wb c = false := by
    intro c r h
    cases b with
    | nil => simp at h; rw [← h.1]; exact hdw
    | cons x y => simp at h; rw [← h.1, hb x (by simp)]; rfl
  have hwa := word_at (pre := pre ++ a) hw hnext
  refine ⟨skip_at ha (fun c' r' h => ?_), ?_, ?_, ?_, ?_, ?_⟩
  · rw [hcr] at h
    simp at h
    rw [← h.1]; exact wb_32 hc
  · rw [e1, ← l1, hcr, List.cons_append, byte_at_pre]; exact hc
  · rw [e1, ← l1]; exact hwa.2
  · rw [e1, ← l1]; exact hwa.1
  · rw [e2, ← l2]
    exact skip_at hb (fun c r h => by simp at h; rw [← h.1]; exact hd)
  · rw [e3, ← l3]; exact byte_at_pre

theorem membersF_spaced : ∀ (items : List (Str × Str × Str)) (f : Nat) (pre : Str) (out : List Str) (tail : Str), items ≠ [] → items.length ≤ f →
    (∀ i ∈ items, Blank i.1 ∧ Blank i.2.2 ∧ validL i.2.1 = true) → membersF f (pre ++ (itemsText items ++ 125 :: tail)) pre.length out = spacedF pre.length out items
  | [], _, _, _, _, h, _, _ => absurd rfl h
  | [(a, n, b)], f, pre, out, tail, _, hf, hv => by
    obtain ⟨f, rfl⟩ : ∃ g, f = g + 1 := ⟨f - 1, by simp at hf; omega⟩
    obtain ⟨ha, hb, hn⟩ := hv (a, n, b) (by simp)
    have e : pre ++ (itemsText [(a, n, b)] ++ 125 :: tail) = pre ++ (a ++ (n ++ (b ++ 125 :: tail))) := by simp [itemsText]
    obtain ⟨h1, h2, h3, h4, h5, h6⟩ := one_item (pre := pre) (suf := tail) (d := 125) ha hb hn (by decide) (by decide)
    rw [e, membersF, h1, if_pos h2, h3, h4, h5, h6]
    unfold spacedF
    by_cases hm : n ∈ out
    · rw [if_pos hm, if_neg (by simp [hm])]
    · rw [if_neg hm, if_pos ⟨hn, hm⟩, if_neg (by decide), if_pos rfl]
  | (a, n, b) :: i :: r, f, pre, out, tail, _, hf, hv => by
    obtain ⟨f, rfl⟩ : ∃ g, f = g + 1 := ⟨f - 1, by simp at hf; omega⟩
    obtain ⟨ha, hb, hn⟩ := hv (a, n, b) (by simp)
    have e : pre ++ (itemsText ((a, n, b) :: i :: r) ++ 125 :: tail) = pre ++ (a ++ (n ++ (b ++ 44 :: (itemsText (i :: r) ++ 125 :: tail)))) := by simp [itemsText]
    obtain ⟨h1, h2, h3, h4, h5, h6⟩ := one_item (pre := pre) (suf := itemsText (i :: r) ++ 125 :: tail) (d := 44) ha hb hn (by decide) (by decide)
    rw [e, membersF, h1, if_pos h2, h3, h4, h5, h6]
    unfold spacedF
    by_cases hm : n ∈ out
    · rw [if_pos hm, if_neg (by simp [hm])]
    · rw [if_neg hm, if_pos ⟨hn, hm⟩, if_pos rfl]
      have ih := membersF_spaced (i :: r) f (pre ++ a ++ n ++ b ++ [44]) (out ++ [n]) tail (by simp) (by simp at hf ⊢; omega) (fun x hx => hv x (by simp at hx ⊢; exact .inr hx))
      have l3 : (pre ++ a ++ n ++ b ++ [44]).length = pre.length + a.length + n.length + b.length + 1 := by simp; omega
      rw [l3] at ih
      rw [← ih]
      simp

theorem skip_all {pre g : Str} (hg : Blank g) : skipL (pre ++ g) pre.length = (pre ++ g).length := by
  have := skip_at (pre := pre) (g := g) (suf := []) hg (by simp)
  simpa using this

theorem itemsText_len : ∀ (items : List (Str × Str × Str)) (a n b : Str) (r : List (Str × Str × Str)), items = (a, n, b) :: r → (∀ i ∈ items, validL i.2.1 = true) → a.length + items.length ≤ (itemsText items).length
  | [], _, _, _, _, h, _ => by cases h
  | [(a, n, b)], _, _, _, _, h, hv => by
    cases h
    obtain ⟨_, c, r, hcr⟩ := valid_wb (hv (a, n, b) (by simp))
    replace hcr : n = c :: r := hcr
    simp [itemsText, hcr]
  | (a, n, b) :: (a', n', b') :: r, _, _, _, _, h, hv => by
    cases h
    have := itemsText_len ((a', n', b') :: r) a' n' b' r rfl (fun i hi => hv i (by simp at hi ⊢; exact .inr hi))
    obtain ⟨_, c, r', hcr⟩ := valid_wb (hv (a, n, b) (by simp))
    replace hcr : n = c :: r' := hcr
    simp [itemsText, hcr] at this ⊢; omega

/-- Reading stops behind '}', if no name is repeated. -/
theorem spacedF_good : ∀ (items : List (Str × Str × Str)) (pos : Nat) (out : List Str), items ≠ [] → (out ++ items.map (·.2.1)).Nodup → spacedF pos out items = (out ++ items.map (·.2.1), 0, pos + (itemsText items).length + 1)
  | [], _, _, h, _ => absurd rfl h
  | [(a, n, b)], pos, out, _, hd => by
    unfold spacedF
    have hm : n ∉ out := fun hm => by
      rw [List.nodup_append] at hd
      exact hd.2.2 n hm n (by simp) rfl
    rw [if_neg hm]
    simp [itemsText]; omega
  | (a, n, b) :: i :: r, pos, out, _, hd => by
    unfold spacedF
    have hm : n ∉ out := fun hm => by
      rw [List.nodup_append] at hd
      exact hd.2.2 n hm n (by simp) rfl
    rw [if_neg hm, spacedF_good (i :: r) _ (out ++ [n]) (by simp) (by simpa using hd)]
    simp [itemsText]; omega

/-- A source of no name. -/
theorem parse_empty {g0 g1 g2 : Str} (h0 : Blank g0) (h1 : Blank g1) (h2 : Blank g2) : parseL (g0 ++ 123 :: (g1 ++ 125 :: g2)) = ([], 0, 0) := by
  have e0 : skipL (g0 ++ 123 :: (g1 ++ 125 :: g2)) 0 = g0.length := by
    have := skip_at (pre := []) (g := g0) (suf := 123 :: (g1 ++ 125 :: g2)) h0 (fun d r e => by simp at e; rw [← e.1]; decide)
    simpa using this
  have l1 : (g0 ++ [123]).length = g0.length + 1 := by simp
  have e1 : g0 ++ 123 :: (g1 ++ 125 :: g2) = (g0 ++ [123]) ++ (g1 ++ 125 :: g2) := by simp
  have e2 : skipL (g0 ++ 123 :: (g1 ++ 125 :: g2)) (g0.length + 1) = g0.length + 1 + g1.length := by
    rw [e1, ← l1]
    exact skip_at h1 (fun d r e => by simp at e; rw [← e.1]; decide)
  have l2 : (g0 ++ [123] ++ g1).length = g0.length + 1 + g1.length := by simp; omega
  have e3 : byteAt (g0 ++ 123 :: (g1 ++ 125 :: g2)) (g0.length + 1 + g1.length) = 125 := by
    rw [show g0 ++ 123 :: (g1 ++ 125 :: g2) = (g0 ++ [123] ++ g1) ++ 125 :: g2 by simp, ← l2]
    exact byte_at_pre
  have e4 : skipL (g0 ++ 123 :: (g1 ++ 125 :: g2)) (g0.length + 1 + g1.length + 1) = (g0 ++ 123 :: (g1 ++ 125 :: g2)).length := by
    have l3 : (g0 ++ [123] ++ g1 ++ [125]).length = g0.length + 1 + g1.length + 1 := by simp; omega
    rw [show g0 ++ 123 :: (g1 ++ 125 :: g2) = (g0 ++ [123] ++ g1 ++ [125]) ++ g2 by simp, ← l3]
    exact skip_all h2
  rw [parseL_finish, e0, byte_at_pre, if_pos rfl]
  unfold membersL
  rw [e2, if_pos e3]
  unfold finish
  rw [if_pos rfl, e4, if_neg (Nat.lt_irrefl _), ofL_nil]

/-- A source of names. -/
theorem parse_items {g0 g2 : Str} {items : List (Str × Str × Str)} (h0 : Blank g0) (h2 : Blank g2) (hne : items ≠ []) (hv : ∀ i ∈ items, Blank i.1 ∧ Blank i.2.2 ∧ validL i.2.1 = true) :
    parseL (g0 ++ 123 :: (itemsText items ++ 125 :: g2)) = finish (g0 ++ 123 :: (itemsText items ++ 125 :: g2)) (spacedF (g0.length + 1) [] items) := by
  have e0 : skipL (g0 ++ 123 :: (itemsText items ++ 125 :: g2)) 0 = g0.length := by
    have := skip_at (pre := []) (g := g0) (suf := 123 :: (itemsText items ++ 125 :: g2)) h0 (fun d r e => by simp at e; rw [← e.1]; decide)
    simpa using this
  have l1 : (g0 ++ [123]).length = g0.length + 1 := by simp
  have e1 : g0 ++ 123 :: (itemsText items ++ 125 :: g2) = (g0 ++ [123]) ++ (itemsText items ++ 125 :: g2) := by simp
  rw [parseL_finish, e0, byte_at_pre, if_pos rfl]
  obtain ⟨⟨a, n, b⟩, r, rfl⟩ : ∃ i r, items = i :: r := by cases items with | nil => exact absurd rfl hne | cons i r => exact ⟨i, r, rfl⟩
  obtain ⟨ha, hb, hn⟩ := hv (a, n, b) (by simp)
  obtain ⟨hw, c, n', hcr⟩ := valid_wb hn
  replace hcr : n = c :: n' := hcr
  replace hw : ∀ c ∈ n, wb c = true := hw
  have hc : wb c = true := hw c (by rw [hcr]; simp)
  obtain ⟨z, hz⟩ : ∃ z, itemsText ((a, n, b) :: r) ++ 125 :: g2 = a ++ (n ++ z) := by
    cases r with
    | nil => exact ⟨b ++ 125 :: g2, by simp [itemsText]⟩
    | cons i r => exact ⟨b ++ 44 :: (itemsText (i :: r) ++ 125 :: g2), by simp [itemsText]⟩
  have hk : skipL (g0 ++ 123 :: (itemsText ((a, n, b) :: r) ++ 125 :: g2)) (g0.length + 1) = g0.length + 1 + a.length := by
    rw [e1, ← l1, hz]
    exact skip_at ha (fun d r e => by rw [hcr] at e; simp at e; rw [← e.1]; exact wb_32 hc)
  have hbk : byteAt (g0 ++ 123 :: (itemsText ((a, n, b) :: r) ++ 125 :: g2)) (g0.length + 1 + a.length) = c := by
    have l2 : (g0 ++ [123] ++ a).length = g0.length + 1 + a.length := by simp; omega
    rw [e1, hz, hcr, show (g0 ++ [123]) ++ (a ++ (c :: n' ++ z)) = (g0 ++ [123] ++ a) ++ c :: (n' ++ z) by simp, ← l2]
    exact byte_at_pre
  have hlen := itemsText_len ((a, n, b) :: r) a n b r rfl (fun i hi => (hv i hi).2.2)
  have hM : membersL (g0 ++ 123 :: (itemsText ((a, n, b) :: r) ++ 125 :: g2)) (g0.length + 1) = spacedF (g0.length + 1) [] ((a, n, b) :: r) := by
    unfold membersL
    rw [hk, hbk, if_neg (by intro e; subst e; exact absurd hc (by decide)), ← hk, membersF_skip _ _ _ _ (by simp), hk]
    have h3 := membersF_spaced ((a, n, b) :: r) ((g0 ++ 123 :: (itemsText ((a, n, b) :: r) ++ 125 :: g2)).length + 1 - (g0.length + 1 + a.length)) (g0 ++ [123]) [] g2 hne
      (by simp at hlen ⊢; omega) hv
    rw [l1, ← e1] at h3
    exact h3
  rw [hM]

theorem parse_items_good {g0 g2 : Str} {items : List (Str × Str × Str)} (h0 : Blank g0) (h2 : Blank g2) (hne : items ≠ []) (hv : ∀ i ∈ items, Blank i.1 ∧ Blank i.2.2 ∧ validL i.2.1 = true) (hd : (items.map (·.2.1)).Nodup) :
    parseL (g0 ++ 123 :: (itemsText items ++ 125 :: g2)) = (ofL (items.map (·.2.1)), 0, 0) := by
  rw [parse_items h0 h2 hne hv, spacedF_good items _ [] hne (by simpa using hd)]
  have l3 : (g0 ++ [123] ++ itemsText items ++ [125]).length = g0.length + 1 + (itemsText items).length + 1 := by simp; omega
  have e4 : skipL (g0 ++ 123 :: (itemsText items ++ 125 :: g2)) (g0.length + 1 + (itemsText items).length + 1) = (g0 ++ 123 :: (itemsText items ++ 125 :: g2)).length := by
    rw [show g0 ++ 123 :: (itemsText items ++ 125 :: g2) = (g0 ++ [123] ++ itemsText items ++ [125]) ++ g2 by simp, ← l3]
    exact skip_all h2
  unfold finish
  rw [if_pos rfl, e4, if_neg (Nat.lt_irrefl _)]
  simp

/-- The canonical text as a source. -/
theorem join_items : ∀ (L : List Str), Lib.join L [44] = itemsText (L.map fun n => ([], n, []))
  | [] => rfl
  | [x] => by simp [itemsText, Lib.join_one]
  | x :: y :: r => by
    have ih := join_items (y :: r)
    rw [Lib.join_cons] at ih ⊢
    simp only [List.map_cons, itemsText, List.nil_append] at ih ⊢
    rw [← ih]
    simp [Lib.joinTail]

theorem sorted_nodup {L : List Str} (h : L.Pairwise (· < ·)) : L.Nodup := by
  unfold List.Nodup
  exact h.imp (fun {a b} (h : a < b) (e : a = b) => slt_irrefl a (by rw [← e] at h; exact h))

theorem plain_names : ∀ (L : List Str), (L.map fun n => (([] : Str), n, ([] : Str))).map (fun i => i.2.1) = L
  | [] => rfl
  | x :: r => by simp [plain_names r]

/-- The text of a set of names is read back as the set. -/
theorem parse_text {L : List Str} (hs : L.Pairwise (· < ·)) (hv : ∀ n ∈ L, validL n = true) : parseL ([123] ++ Lib.join L [44] ++ [125]) = (L, 0, 0) := by
  have hd : L.Nodup := sorted_nodup hs
  cases L with
  | nil => exact parse_empty (g0 := []) (g1 := []) (g2 := []) (by simp [Blank]) (by simp [Blank]) (by simp [Blank])
  | cons x r =>
    rw [join_items]
    have h := parse_items_good (g0 := []) (g2 := []) (items := (x :: r).map fun n => (([] : Str), n, ([] : Str))) (by simp [Blank]) (by simp [Blank]) (by simp)
      (fun i hi => by
        simp only [List.mem_map] at hi
        obtain ⟨n, hn, rfl⟩ := hi
        exact ⟨by simp [Blank], by simp [Blank], hv n hn⟩)
      (by rw [plain_names]; exact hd)
    rw [plain_names, ofL_self hs] at h
    simpa using h

/-! What is read has nothing repeated, names alone, and is no longer than its source. -/
def lens (L : List Str) : Nat := (L.map fun n => n.length + 1).sum

theorem membersF_facts' {l : Str} : ∀ (f i : Nat) (out : List Str) (d : Nat), i ≤ l.length → out.Nodup → (∀ n ∈ out, validL n = true) → lens out + d ≤ i → (membersF f l i out).2.1 = 0 → l.length + 1 ≤ f + i →
    (membersF f l i out).1.Nodup ∧ (∀ n ∈ (membersF f l i out).1, validL n = true) ∧ lens (membersF f l i out).1 + d ≤ (membersF f l i out).2.2 ∧ 1 ≤ (membersF f l i out).1.length
  | 0, _, _, _, hi, _, _, _, _, hf => by omega
  | f + 1, i, out, d, hi, hd, hv, hl, he, hf => by
    have h1 := skip_le (l := l) (k := i) hi
    have h2 := wordEnd_le (l := l) h1
    have g1 := skip_ge l i
    have g3 := skip_ge l (wordEnd l (skipL l i))
    have hwl : wordEnd l (skipL l i) = skipL l i + (wordAt l (skipL l i)).length := rfl
    rw [membersF] at he ⊢
    split at he
    · rename_i hw
      rw [if_pos hw]
      split at he
      · rename_i hvm
        rw [if_pos hvm]
        have hd2 : (out ++ [wordAt l (skipL l i)]).Nodup := by
          rw [List.nodup_append]
          exact ⟨hd, by simp, fun a ha b hb e => by simp at hb; subst hb; subst e; exact hvm.2 ha⟩
        have hv2 : ∀ n ∈ out ++ [wordAt l (skipL l i)], validL n = true := fun n hn => by
          rcases List.mem_append.1 hn with h | h
          · exact hv n h
          · simp at h; subst h; exact hvm.1
        have hl2 : lens (out ++ [wordAt l (skipL l i)]) = lens out + (wordAt l (skipL l i)).length + 1 := by unfold lens; simp; omega
        split at he
        · rename_i hc
          rw [if_pos hc]
          have hlt := byteAt_lt (l := l) (i := skipL l (wordEnd l (skipL l i))) (by rw [hc]; decide)
          exact membersF_facts' f _ _ d hlt hd2 hv2 (by omega) he (by omega)
        · rename_i hc
          rw [if_neg hc]
          split at he
          · rename_i hc2
            rw [if_pos hc2]
            exact ⟨hd2, hv2, by simp only; omega, by simp⟩
          · simp at he
      · simp at he
    · simp at he

theorem perm_ofL {L : List Str} (h : L.Nodup) : (ofL L).Perm L :=
  (List.perm_ext_iff_of_nodup (sorted_nodup (ofL_sorted L)) h).2 (mem_ofL L)

theorem lens_perm {L M : List Str} (h : L.Perm M) : lens L = lens M := (h.map _).sum_nat

theorem join_len : ∀ (L : List Str), L ≠ [] → (Lib.join L [44]).length + 1 = lens L
  | [], h => absurd rfl h
  | [x], _ => by simp [Lib.join_one, lens]
  | x :: y :: r, _ => by
    have ih := join_len (y :: r) (by simp)
    rw [Lib.join_cons] at ih ⊢
    simp [lens, Lib.joinTail] at ih ⊢; omega

/-- What Parse has read: the set is sorted, of names, and its text is no longer than the source. -/
theorem parse_facts {l : Str} (h : (parseL l).2.2 = 0) : (parseL l).1.Pairwise (· < ·) ∧ (∀ n ∈ (parseL l).1, validL n = true) ∧ ([123] ++ Lib.join (parseL l).1 [44] ++ [125]).length ≤ l.length ∧ (parseL l).2.1 = 0 := by
  rw [parseL_finish] at h ⊢
  split at h
  · rename_i hc
    rw [if_pos hc]
    have hj := byteAt_lt (l := l) (i := skipL l 0) (by rw [hc]; decide)
    unfold finish at h ⊢
    split at h
    · rename_i he
      rw [if_pos he]
      split at h
      · simp at h
      · rename_i hk
        rw [if_neg hk]
        have hle := membersL_le (l := l) (i := skipL l 0 + 1) hj
        have hmem : (membersL l (skipL l 0 + 1)).1.Nodup ∧ (∀ n ∈ (membersL l (skipL l 0 + 1)).1, validL n = true) ∧ (((membersL l (skipL l 0 + 1)).1 = [] ∧ 2 ≤ l.length) ∨ ((membersL l (skipL l 0 + 1)).1 ≠ [] ∧ lens (membersL l (skipL l 0 + 1)).1 + 1 ≤ l.length)) := by
          have h3 := skip_ge l (skipL l 0 + 1)
          have h4 := skip_le (l := l) (k := skipL l 0 + 1) hj
          unfold membersL at he hle ⊢
          split at he
          · rename_i hc2
            rw [if_pos hc2]
            have := byteAt_lt (l := l) (i := skipL l (skipL l 0 + 1)) (by rw [hc2]; decide)
            exact ⟨by simp, by simp, .inl ⟨rfl, by omega⟩⟩
          · rename_i hc2
            rw [if_neg hc2] at hle ⊢
            have h5 := membersF_facts' (l := l) (l.length + 1 - skipL l (skipL l 0 + 1)) (skipL l (skipL l 0 + 1)) [] 1 h4 (by simp) (by simp) (by simp [lens]; omega) he (by omega)
            exact ⟨h5.1, h5.2.1, .inr ⟨fun e => by have := h5.2.2.2; rw [e] at this; simp at this, by have := h5.2.2.1; omega⟩⟩
        refine ⟨ofL_sorted _, fun n hn => hmem.2.1 n ((mem_ofL _ n).1 hn), ?_, rfl⟩
        rcases hmem.2.2 with ⟨h0, h2⟩ | ⟨h0, h2⟩
        · rw [h0, ofL_nil]; simpa [Lib.join_nil] using h2
        · have hne : ofL (membersL l (skipL l 0 + 1)).1 ≠ [] := fun e => by
            have hp := perm_ofL hmem.1
            rw [e] at hp
            exact h0 (List.Perm.nil_eq hp).symm
          have hj2 := join_len _ hne
          rw [lens_perm (perm_ofL hmem.1)] at hj2
          simp; omega
    · rename_i he
      rw [if_neg he] at *
      exact absurd h he
  · simp at h
end Go.Proofs.Ytgolodpihmdmoaa
