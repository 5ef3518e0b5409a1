/-
  Chapter 56: linear.start.
-/
import Derived.Test.YtgaolgfjbgflgaaLc
import Derived.Test.YtgaolgfjbgflgaaRg
import Derived.Test.YtgaolgfjbgflgaaHg
import Derived.Laws.BitsAllLaws
namespace Go.Proofs.Ytgaolgfjbgflgaa
open Go.RowKit

/-- The cells of a search. -/
def srchA (hv : Value) (must : Nat) (aft : Nat → Nat) (gm : Nat) (steps : Int) : Array Value :=
  #[hv, .int .u32 ((must : Nat) : Int), .int .u32 ((aft 0 : Nat) : Int), .int .u32 ((aft 1 : Nat) : Int), .int .u32 ((aft 2 : Nat) : Int), .int .u32 ((aft 3 : Nat) : Int), .int .u32 ((aft 4 : Nat) : Int), .int .u32 ((aft 5 : Nat) : Int), .int .u32 ((aft 6 : Nat) : Int), .int .u32 ((aft 7 : Nat) : Int), .int .u32 ((aft 8 : Nat) : Int), .int .u32 ((aft 9 : Nat) : Int), .int .u32 ((aft 10 : Nat) : Int), .int .u32 ((aft 11 : Nat) : Int), .int .u32 ((aft 12 : Nat) : Int), .int .u32 ((aft 13 : Nat) : Int), .int .u32 ((aft 14 : Nat) : Int), .int .u32 ((aft 15 : Nat) : Int), .map (some gm), .int .i64 steps]
theorem srchA_aft (hv : Value) (must : Nat) (aft : Nat → Nat) (gm : Nat) (steps : Int) (i : Nat) (hi : i < 16) : (srchA hv must aft gm steps)[2 + i]? = some (.int .u32 ((aft i : Nat) : Int)) := by
  match i, hi with
  | 0, _ => rfl
  | 1, _ => rfl
  | 2, _ => rfl
  | 3, _ => rfl
  | 4, _ => rfl
  | 5, _ => rfl
  | 6, _ => rfl
  | 7, _ => rfl
  | 8, _ => rfl
  | 9, _ => rfl
  | 10, _ => rfl
  | 11, _ => rfl
  | 12, _ => rfl
  | 13, _ => rfl
  | 14, _ => rfl
  | 15, _ => rfl
  | i + 16, hi => exact absurd hi (by omega)
theorem srchA_must (hv : Value) (must : Nat) (aft : Nat → Nat) (gm : Nat) (steps : Int) (x : Nat) : (srchA hv must aft gm steps).setIfInBounds 1 (.int .u32 ((x : Nat) : Int)) = srchA hv x aft gm steps := rfl
theorem srchA_steps (hv : Value) (must : Nat) (aft : Nat → Nat) (gm : Nat) (steps x : Int) : (srchA hv must aft gm steps).setIfInBounds 19 (.int .i64 x) = srchA hv must aft gm x := rfl
theorem srchA_set (hv : Value) (must : Nat) (aft : Nat → Nat) (gm : Nat) (steps : Int) (i x : Nat) (hi : i < 16) : (srchA hv must aft gm steps).setIfInBounds (2 + i) (.int .u32 ((x : Nat) : Int)) = srchA hv must (fun j => if j = i then x else aft j) gm steps := by
  match i, hi with
  | 0, _ => rfl
  | 1, _ => rfl
  | 2, _ => rfl
  | 3, _ => rfl
  | 4, _ => rfl
  | 5, _ => rfl
  | 6, _ => rfl
  | 7, _ => rfl
  | 8, _ => rfl
  | 9, _ => rfl
  | 10, _ => rfl
  | 11, _ => rfl
  | 12, _ => rfl
  | 13, _ => rfl
  | 14, _ => rfl
  | 15, _ => rfl
  | i + 16, hi => exact absurd hi (by omega)
theorem srchA_congr {hv : Value} {must : Nat} {aft aft' : Nat → Nat} {gm : Nat} {steps : Int} (h : ∀ j, aft j = aft' j) : srchA hv must aft gm steps = srchA hv must aft' gm steps := by
  rw [show aft = aft' from funext h]
def mustK (h : List Opn) (k : Nat) : Nat := maskP (fun i => decide (0 ≤ endO (nth h i))) k
def aftK (h : List Opn) (k q : Nat) (j : Nat) : Nat := if j < k then maskP (prI h j) h.length else if j = k then maskP (prI h k) q else 0
/-- The search's block as it is while it is filled. -/
def SrA (W w : World) (gs gm : Nat) (cs : Array Value) : Prop := Blk w gs 58 cs ∧ w.heap[gm]? = some (.map #[] 0) ∧ Below W.heap.size W w
theorem SrA.on {W w w' : World} {gs gm : Nat} {cs : Array Value} (h : SrA W w gs gm cs) (hb : Below w.heap.size w w') (hW : W.heap.size ≤ w.heap.size) : SrA W w' gs gm cs :=
  ⟨h.1.on hb, (hb.block gm (Array.getElem?_eq_some_iff.1 h.2.1).1).trans h.2.1, h.2.2.trans (hb.mono hW)⟩
theorem SrA.on' {W w w' : World} {gs gm : Nat} {cs : Array Value} (h : SrA W w gs gm cs) (hb : Below w.heap.size w w') : SrA W w' gs gm cs := h.on hb h.2.2.size
theorem SrA.set_ {W w : World} {gs gm : Nat} {cs : Array Value} (h : SrA W w gs gm cs) (hg : W.heap.size ≤ gs) (hne : gs ≠ gm) (i : Nat) (u : Value) : SrA W (w.setCell ⟨gs, i, none⟩ u) gs gm (cs.setIfInBounds i u) :=
  ⟨h.1.set_ i u, (Below.heap_setCell w ⟨gs, i, none⟩ u gm (fun e => hne e.symm)).trans h.2.1, h.2.2.setCell hg u⟩
theorem pow_lt {k : Nat} (h : k < 16) : 2 ^ k < 65536 := Nat.pow_lt_pow_right (by omega) h
theorem wrap_u32 {n : Nat} (h : n < 4294967296) : IntKind.u32.wrap (n : Int) = (n : Int) := by
  have e : (n : Int) % 4294967296 = n := Int.emod_eq_of_lt (by omega) (by omega)
  simp [IntKind.wrap, IntKind.bits, IntKind.signed, e]
theorem mask16 (P : Nat → Bool) {k : Nat} (h : k ≤ 16) : maskP P k < 65536 := Nat.lt_of_lt_of_le (maskP_lt P k) (Nat.pow_le_pow_right (by omega) h)
theorem shl_u32 {k : Nat} (h : k < 16) : IntKind.u32.wrap ((2 : Int) ^ k) = (2 : Int) ^ k := by
  have h1 := pow_lt h
  have h2 := wrap_u32 (n := 2 ^ k) (by omega)
  simpa using h2
theorem or_u32 {m k : Nat} (hm : m < 65536) (hk : k < 16) : bits .or .u32 (m : Int) ((2 : Int) ^ k) = ((addM m k : Nat) : Int) := by
  have h1 := pow_lt hk
  have h2 := u32_or_nat m (2 ^ k) (by omega) (by omega)
  simpa [addM] using h2
theorem mustK_yes {h : List Opn} {k : Nat} (he : 0 ≤ endO (nth h k)) : mustK h (k + 1) = addM (mustK h k) k := by unfold mustK; rw [maskP, if_pos (decide_eq_true he)]
theorem mustK_no {h : List Opn} {k : Nat} (he : ¬ 0 ≤ endO (nth h k)) : mustK h (k + 1) = mustK h k := by unfold mustK; rw [maskP, if_neg (by simp; omega)]
theorem aft_yes {h : List Opn} {k q : Nat} (hp : prI h k q = true) : maskP (prI h k) (q + 1) = addM (maskP (prI h k) q) q := by rw [maskP, if_pos hp]
theorem aft_no {h : List Opn} {k q : Nat} (hp : prI h k q = false) : maskP (prI h k) (q + 1) = maskP (prI h k) q := by rw [maskP, if_neg (by rw [hp]; exact Bool.false_ne_true)]
theorem aftK_step (h : List Opn) (k q x : Nat) (hx : maskP (prI h k) (q + 1) = x) (j : Nat) : (if j = k then x else aftK h k q j) = aftK h k (q + 1) j := by
  unfold aftK
  by_cases h1 : j = k
  · subst h1; rw [if_pos rfl, if_neg (by omega), if_pos rfl, hx]
  · rw [if_neg h1]
    by_cases h2 : j < k
    · rw [if_pos h2, if_pos h2]
    · rw [if_neg h2, if_neg h2, if_neg h1, if_neg h1]
theorem aftK_row (h : List Opn) (k q : Nat) (hq : q = h.length) (j : Nat) : aftK h k q j = aftK h (k + 1) 0 j := by
  subst hq
  unfold aftK
  by_cases h1 : j < k
  · rw [if_pos h1, if_pos (by omega)]
  · rw [if_neg h1]
    by_cases h2 : j = k
    · subst h2; rw [if_pos rfl, if_pos (by omega)]
    · rw [if_neg h2, if_neg (by omega)]
      by_cases h3 : j = k + 1
      · subst h3; rw [if_pos rfl]; rfl
      · rw [if_neg h3]
/-- A search of a history, as start leaves it. -/
def StartMade (W : World) (h : List Opn) (hv : Value) (e : Ending) (w' : World) : Prop :=
  ∃ gs gm, e = .returned (.pointer (some ⟨gs, 0, none⟩)) ∧ W.heap.size ≤ gs ∧ W.heap.size ≤ gm ∧ gs ≠ gm ∧ SrA W w' gs gm (srchA hv (mustK h h.length) (fun j => if j < h.length then maskP (prI h j) h.length else 0) gm 0)
theorem aftK_all (h : List Opn) (j : Nat) : aftK h h.length 0 j = if j < h.length then maskP (prI h j) h.length else 0 := by
  unfold aftK
  by_cases h1 : j < h.length
  · rw [if_pos h1, if_pos h1]
  · rw [if_neg h1, if_neg h1]
    split <;> rfl

set_option maxRecDepth 100000 in
set_option maxHeartbeats 8000000 in
theorem start_any (v : Value) (h : List Opn) (W : World) (hr : ReadsO W v h) (hn : h.length ≤ 16) : Calls Try.prog 29 #[v] W (StartMade W h v) := by
  have HR := Lib.hid hr
  obtain ⟨ao, cap, rfl, hl, hm, -, -⟩ := hr
  unfold maxLen at hm
  go_enter Try.func29, Try.ntmps29
  go_wp2_with (refine wpList_make_map rfl 56 rfl ?_)
  go_loopg [14] h.length (fun m i wr => ∃ k : Nat, m + k = h.length ∧ i = .int .i64 k ∧ SrA W wr (W.heap.size + 1) W.heap.size (srchA (.slice ao h.length cap) (mustK h k) (aftK h k 0) W.heap.size 0))
  case atStart =>
    refine ⟨0, by omega, rfl, ?_, ?_, (Below.refl _ _).alloc (Nat.le_refl _) _ |>.alloc (by simp) _⟩
    · have h0 := Blk.new (W.alloc (.map #[] 0)) 58 (srchA (.slice ao h.length cap) (mustK h 0) (aftK h 0 0) W.heap.size 0)
      rw [World.size_alloc] at h0
      have e : aftK h 0 0 = fun _ => 0 := by funext j; unfold aftK; rw [if_neg (by omega)]; split <;> rfl
      rw [e] at h0 ⊢
      exact h0
    · exact (Below.heap_alloc _ _ _ (by simp)).trans (heap_alloc_new W _)
  case round =>
    obtain ⟨k, hmk, rfl, hsr⟩ := hrel
    have HM := Lib.hid hmk
    have HSR := Lib.hid hsr
    have KW := Lib.hid hsr.2.2
    have hk : k ≤ h.length := by omega
    have hgl := hsr.1.lt
    clear hmk hsr
    by_cases hlt : k < h.length
    · obtain ⟨b, off, cap1, a4, c4, a5, c5, hv, _, _, hm4, hm5, hl4, hl5, hcell, r1, r2⟩ := HR.out.at2 hlt
      injection hv with e1 e2 e3
      subst e1
      have hki : (k : Int) < h.length := by omega
      have hk0 : (0 : Int) ≤ (k : Int) := by omega
      have hk16 : k < 16 := by omega
      have hki16 : (k : Int) < 16 := by omega
      have dd := Lib.hid (hcell wr KW.out)
      have x0 := dd.out.1
      have x1 := dd.out.2.1
      have x2 := dd.out.2.2.1
      have x3 := dd.out.2.2.2.1
      have x4 := dd.out.2.2.2.2.1
      have x5 := dd.out.2.2.2.2.2
      have HN := Lib.hid (And.intro hcell (And.intro r1 r2))
      have HNX : Hid (nth h k = h[k]) := Lib.hid (nth_eq hlt)
      have HPX : Hid (∀ q (hq : q < h.length), prI h k q = precB h[k] h[q]) := Lib.hid fun q hq => by unfold prI; rw [HNX.out, nth_eq hq]
      clear e2 e3 hcell r1 r2 dd
      generalize h[k] = x at *
      clear hlt
      have HSX := Lib.hid (fun o => HSR.out.on' ((Below.refl wr.heap.size wr).alloc (Nat.le_refl _) o))
      have HBX := Lib.hid (Blk.new wr 37 #[.int .i64 (cliO x), .int .i64 (kindO x), .int .i64 (begO x), .int .i64 (endO x), .slice a4 (addO x).length c4, .slice a5 (seeO x).length c5])
      have hshl := shl_u32 hk16
      have HAS := Lib.hid (fun wq cs (hs : SrA W wq (W.heap.size + 1) W.heap.size cs) i u => hs.set_ (Nat.le_succ _) (by omega) i u)
      by_cases he : 0 ≤ endO x
      · have HMY := Lib.hid (mustK_yes (h := h) (k := k) (by rw [HNX.out]; exact he))
        have hmu := mask16 (fun i => decide (0 ≤ endO (nth h i))) (show k ≤ 16 by omega)
        have hor : bits .or .u32 ((mustK h k : Nat) : Int) ((2 : Int) ^ k) = ((mustK h (k + 1) : Nat) : Int) := by rw [HMY.out]; exact or_u32 hmu hk16
        clear hmu
        go_wp2_with fail
        refine region_loud [.is (.pointer (some ⟨W.heap.size + 1, 0, none⟩)), .is (.pointer (some ⟨W.heap.size + 1, 0, none⟩)), .is (.pointer (some ⟨W.heap.size + 1, 1, none⟩)), .is (.int .u32 (mustK h k : Int)), .is (.int .i64 (k : Int)), .is (.int .u32 ((2 : Int) ^ k)), .is (.int .u32 (mustK h (k + 1) : Int)), .is (.pointer (some ⟨W.heap.size + 1, 0, none⟩)), .is (.pointer (some ⟨W.heap.size + 1, 1, none⟩))] [] (.has (fun _ w => SrA W w (W.heap.size + 1) W.heap.size (srchA (.slice (some ⟨b, off, none⟩) h.length cap) (mustK h (k + 1)) (aftK h k 0) W.heap.size 0) ∧ Blk w wr.heap.size 37 #[.int .i64 (cliO x), .int .i64 (kindO x), .int .i64 (begO x), .int .i64 (endO x), .slice a4 (addO x).length c4, .slice a5 (seeO x).length c5]) (fun _ _ _ hb h => ⟨h.1.on' hb, h.2.on hb⟩)) 9 rfl _ rfl (by kernel_rfl) rfl (by kernel_rfl) (by kernel_rfl) (by kernel_rfl) (by kernel_rfl) (.cons ?q0 (.cons ?q1 (.cons ?q2 (.cons ?q3 (.cons ?q4 (.cons ?q5 (.cons ?q6 (.cons ?q7 (.cons ?q8 .nil))))))))) ?q9 (.nil) ?qfin
        case q0 =>
          intro wq hbw st  K hK
          have SA := (HSX.out _).on' hbw
          simp only [Act.put, List.setIfInBounds_toArray, List.set_cons_zero, List.set_cons_succ] at hK ⊢
          unfold opStep
          rw [if_pos (by rfl)]
          go_simp
          exact hK.out _ _ (Below.refl _ _) rfl _ rfl
        case q1 =>
          intro wq hbw st  K hK
          have SA := (HSX.out _).on' hbw
          simp only [Act.put, List.setIfInBounds_toArray, List.set_cons_zero, List.set_cons_succ] at hK ⊢
          unfold opStep
          rw [if_pos (by rfl)]
          go_simp
          exact hK.out _ _ (Below.refl _ _) rfl _ rfl
        case q2 =>
          intro wq hbw st  K hK
          have SA := (HSX.out _).on' hbw
          simp only [Act.put, List.setIfInBounds_toArray, List.set_cons_zero, List.set_cons_succ] at hK ⊢
          unfold opStep
          rw [if_pos (by rfl)]
          go_simp
          exact hK.out _ _ (Below.refl _ _) rfl _ rfl
        case q3 =>
          intro wq hbw st  K hK
          have SA := (HSX.out _).on' hbw
          simp only [Act.put, List.setIfInBounds_toArray, List.set_cons_zero, List.set_cons_succ] at hK ⊢
          unfold opStep
          rw [if_pos (by rfl)]
          have cc := SA.1.cell 1
          go_simp
          exact hK.out _ _ (Below.refl _ _) rfl _ rfl
        case q4 =>
          intro wq hbw st  K hK
          have SA := (HSX.out _).on' hbw
          simp only [Act.put, List.setIfInBounds_toArray, List.set_cons_zero, List.set_cons_succ] at hK ⊢
          unfold opStep
          rw [if_pos (by rfl)]
          go_simp
          exact hK.out _ _ (Below.refl _ _) rfl _ rfl
        case q5 =>
          intro wq hbw st  K hK
          have SA := (HSX.out _).on' hbw
          simp only [Act.put, List.setIfInBounds_toArray, List.set_cons_zero, List.set_cons_succ] at hK ⊢
          unfold opStep
          rw [if_pos (by rfl)]
          go_simp
          exact hK.out _ _ (Below.refl _ _) rfl _ rfl
        case q6 =>
          intro wq hbw st  K hK
          have SA := (HSX.out _).on' hbw
          simp only [Act.put, List.setIfInBounds_toArray, List.set_cons_zero, List.set_cons_succ] at hK ⊢
          unfold opStep
          rw [if_pos (by rfl)]
          go_simp
          exact hK.out _ _ (Below.refl _ _) rfl _ rfl
        case q7 =>
          intro wq hbw st  K hK
          have SA := (HSX.out _).on' hbw
          simp only [Act.put, List.setIfInBounds_toArray, List.set_cons_zero, List.set_cons_succ] at hK ⊢
          unfold opStep
          rw [if_pos (by rfl)]
          go_simp
          exact hK.out _ _ (Below.refl _ _) rfl _ rfl
        case q8 =>
          intro wq hbw st  K hK
          have SA := (HSX.out _).on' hbw
          simp only [Act.put, List.setIfInBounds_toArray, List.set_cons_zero, List.set_cons_succ] at hK ⊢
          unfold opStep
          rw [if_pos (by rfl)]
          go_simp
          exact hK.out _ _ (Below.refl _ _) rfl _ rfl
        case q9 =>
          intro wq hbw st  K hK
          have SA := (HSX.out _).on' hbw
          simp only [Act.put, List.setIfInBounds_toArray, List.set_cons_zero, List.set_cons_succ] at hK ⊢
          unfold opStep
          rw [if_pos (by rfl)]
          have cc := SA.1.cell 1
          have ff := SA.1.frozen 1
          go_simp
          exact hK.out undef _ ⟨HAS.out _ _ SA 1 _, (HBX.out.on hbw).far (Nat.ne_of_gt hgl) _⟩ _ rfl
        case qfin =>
          intro wq
          intro x9 h9
          try simp only [FinAll]
          simp only [Act.put, List.setIfInBounds_toArray, List.set_cons_zero, List.set_cons_succ]
          clear hor hshl x0 x1 x2 x3 x4 x5 HSX HBX HSR
          have HI := Lib.hid h9
          clear h9 x9
          generalize wr.heap.size = gx at *
          go_wp2
          obtain ⟨G1, hG1⟩ : ∃ G, G = gk := ⟨_, rfl⟩
          subst hG1
          go_loopg [33] h.length (fun m i wq => ∃ q : Nat, m + q = h.length ∧ i = .int .i64 q ∧ SrA W wq (W.heap.size + 1) W.heap.size (srchA (.slice (some ⟨b, off, none⟩) h.length cap) (mustK h (k + 1)) (aftK h k q) W.heap.size 0) ∧ Blk wq gx 37 #[.int .i64 (cliO x), .int .i64 (kindO x), .int .i64 (begO x), .int .i64 (endO x), .slice a4 (addO x).length c4, .slice a5 (seeO x).length c5])
          case atStart => exact ⟨0, by omega, rfl, HI.out.1, HI.out.2⟩
          case round =>
            clear HI
            obtain ⟨q, hmq, rfl, hsr, hbx⟩ := hrel
            have HM2 := Lib.hid hmq
            have HSQ := Lib.hid hsr
            have HBQ := Lib.hid hbx
            have KQ := Lib.hid hsr.2.2
            have hq : q ≤ h.length := by omega
            clear hmq hsr hbx
            by_cases hql : q < h.length
            · obtain ⟨b', off', cap2', d4, k4, d5, k5, hv, _, _, n4, n5, l4, l5, hcell, s1, s2⟩ := HR.out.at2 hql
              injection hv with e5 e6 e7
              injection e5 with e5
              injection e5 with e5 e8
              subst e5 e8
              have hqi : (q : Int) < h.length := by omega
              have hq0 : (0 : Int) ≤ (q : Int) := by omega
              have hq16 : q < 16 := by omega
              have HN2 := Lib.hid (And.intro hcell (And.intro s1 s2))
              have HPE := Lib.hid (HPX.out q hql)
              have dd := Lib.hid (hcell wr KQ.out)
              have y0 := dd.out.1
              have y1 := dd.out.2.1
              have y2 := dd.out.2.2.1
              have y3 := dd.out.2.2.2.1
              have y4 := dd.out.2.2.2.2.1
              have y5 := dd.out.2.2.2.2.2
              clear e6 e7 hcell s1 s2 dd
              generalize h[q] = y at *
              clear hql
              have HSY := Lib.hid (fun o => HSQ.out.on' ((Below.refl wr.heap.size wr).alloc (Nat.le_refl _) o))
              have HBA := Lib.hid (fun o => HBQ.out.alloc o)
              have HBY := Lib.hid (Blk.new wr 37 #[.int .i64 (cliO y), .int .i64 (kindO y), .int .i64 (begO y), .int .i64 (endO y), .slice d4 (addO y).length k4, .slice d5 (seeO y).length k5])
              have hgx := HBQ.out.lt
              have kk := blk6 (HBA.out (.cells #[.int .i64 (cliO y), .int .i64 (kindO y), .int .i64 (begO y), .int .i64 (endO y), .slice d4 (addO y).length k4, .slice d5 (seeO y).length k5] 37))
              have z0 := kk.1
              have z1 := kk.2.1
              have z2 := kk.2.2.1
              have z3 := kk.2.2.2.1
              have z4 := kk.2.2.2.2.1
              have z5 := kk.2.2.2.2.2.1
              clear kk
              have HPC := Lib.hid (prec_any _ _ x y _ ⟨_, _, rfl, (HN.out.2.1.keep KQ.out).keep ((Below.refl wr.heap.size wr).alloc (Nat.le_refl _) (.cells #[.int .i64 (cliO y), .int .i64 (kindO y), .int .i64 (begO y), .int .i64 (endO y), .slice d4 (addO y).length k4, .slice d5 (seeO y).length k5] 37)), (HN.out.2.2.keep KQ.out).keep ((Below.refl wr.heap.size wr).alloc (Nat.le_refl _) _)⟩ ⟨_, _, rfl, (HN2.out.2.1.keep KQ.out).keep ((Below.refl wr.heap.size wr).alloc (Nat.le_refl _) _), (HN2.out.2.2.keep KQ.out).keep ((Below.refl wr.heap.size wr).alloc (Nat.le_refl _) _)⟩)
              go_wp2_with fail
              refine HPC.out.mono ?_
              rintro e w2 ⟨rfl, hb2⟩
              clear z0 z1 z2 z3 z4 z5 y0 y1 y2 y3 y4 y5 HPC
              have HSZ := Lib.hid ((HSY.out _).on' hb2)
              have HBZ := Lib.hid ((HBA.out _).on hb2)
              clear hb2 HSY HBA HBY
              by_cases hp : precB x y = true
              · have HAY := Lib.hid (aft_yes (h := h) (k := k) (q := q) (by rw [HPE.out]; exact hp))
                have hm16 := mask16 (prI h k) (show q ≤ 16 by omega)
                have hshl2 := shl_u32 hq16
                have hor2 : bits .or .u32 ((maskP (prI h k) q : Nat) : Int) ((2 : Int) ^ q) = ((maskP (prI h k) (q + 1) : Nat) : Int) := by rw [HAY.out]; exact or_u32 hm16 hq16
                have HCA : Hid (∀ (wq : World) cs, cs = srchA (.slice (some ⟨b, off, none⟩) h.length cap) (mustK h (k + 1)) (aftK h k q) W.heap.size 0 → Blk wq (W.heap.size + 1) 58 cs → wq.cell? ⟨W.heap.size + 1, 2 + k, none⟩ = some (.int .u32 ((maskP (prI h k) q : Nat) : Int)) ∧ wq.frozen? ⟨W.heap.size + 1, 2 + k, none⟩ = false) := Lib.hid fun wq cs hcs hB => by
                  subst hcs
                  refine ⟨(hB.cell (2 + k)).trans ?_, hB.frozen _⟩
                  rw [srchA_aft _ _ _ _ _ k hk16]
                  unfold aftK
                  rw [if_neg (Nat.lt_irrefl k), if_pos rfl]
                have HST : Hid (∀ x, maskP (prI h k) (q + 1) = x → (srchA (.slice (some ⟨b, off, none⟩) h.length cap) (mustK h (k + 1)) (aftK h k q) W.heap.size 0).setIfInBounds (2 + k) (.int .u32 ((x : Nat) : Int)) = srchA (.slice (some ⟨b, off, none⟩) h.length cap) (mustK h (k + 1)) (aftK h k (q + 1)) W.heap.size 0) := Lib.hid fun x hx => by
                  rw [srchA_set _ _ _ _ _ k _ hk16]
                  exact srchA_congr (aftK_step h k q x hx)
                rw [hp]
                clear hp
                go_wp2_with fail
                refine region_loud [.is (.pointer (some ⟨W.heap.size + 1, 0, none⟩)), .is (.int .i64 (k : Int)), .is (.pointer (some ⟨W.heap.size + 1, 0, none⟩)), .is (.pointer (some ⟨W.heap.size + 1, 2, none⟩)), .is (.pointer (some ⟨W.heap.size + 1, 2 + k, none⟩)), .is (.int .u32 ((maskP (prI h k) q : Nat) : Int)), .is (.int .i64 (q : Int)), .is (.int .u32 ((2 : Int) ^ q)), .is (.int .u32 ((maskP (prI h k) (q + 1) : Nat) : Int)), .is (.pointer (some ⟨W.heap.size + 1, 0, none⟩)), .is (.pointer (some ⟨W.heap.size + 1, 2, none⟩)), .is (.pointer (some ⟨W.heap.size + 1, 2 + k, none⟩))] [] (.has (fun _ w => SrA W w (W.heap.size + 1) W.heap.size (srchA (.slice (some ⟨b, off, none⟩) h.length cap) (mustK h (k + 1)) (aftK h k (q + 1)) W.heap.size 0) ∧ Blk w gx 37 #[.int .i64 (cliO x), .int .i64 (kindO x), .int .i64 (begO x), .int .i64 (endO x), .slice a4 (addO x).length c4, .slice a5 (seeO x).length c5]) (fun _ _ _ hb h => ⟨h.1.on' hb, h.2.on hb⟩)) 12 rfl _ rfl (by kernel_rfl) rfl (by kernel_rfl) (by kernel_rfl) (by kernel_rfl) (by kernel_rfl) (.cons ?s0 (.cons ?s1 (.cons ?s2 (.cons ?s3 (.cons ?s4 (.cons ?s5 (.cons ?s6 (.cons ?s7 (.cons ?s8 (.cons ?s9 (.cons ?s10 (.cons ?s11 .nil)))))))))))) ?s12 (.nil) ?sfin
                case s0 =>
                  intro wq2 hbw st  K hK
                  have SA := HSZ.out.on' hbw
                  simp only [Act.put, List.setIfInBounds_toArray, List.set_cons_zero, List.set_cons_succ] at hK ⊢
                  unfold opStep
                  rw [if_pos (by rfl)]
                  go_simp
                  exact hK.out _ _ (Below.refl _ _) rfl _ rfl
                case s1 =>
                  intro wq2 hbw st  K hK
                  have SA := HSZ.out.on' hbw
                  simp only [Act.put, List.setIfInBounds_toArray, List.set_cons_zero, List.set_cons_succ] at hK ⊢
                  unfold opStep
                  rw [if_pos (by rfl)]
                  go_simp
                  exact hK.out _ _ (Below.refl _ _) rfl _ rfl
                case s2 =>
                  intro wq2 hbw st  K hK
                  have SA := HSZ.out.on' hbw
                  simp only [Act.put, List.setIfInBounds_toArray, List.set_cons_zero, List.set_cons_succ] at hK ⊢
                  unfold opStep
                  rw [if_pos (by rfl)]
                  go_simp
                  exact hK.out _ _ (Below.refl _ _) rfl _ rfl
                case s3 =>
                  intro wq2 hbw st  K hK
                  have SA := HSZ.out.on' hbw
                  simp only [Act.put, List.setIfInBounds_toArray, List.set_cons_zero, List.set_cons_succ] at hK ⊢
                  unfold opStep
                  rw [if_pos (by rfl)]
                  go_simp
                  exact hK.out _ _ (Below.refl _ _) rfl _ rfl
                case s4 =>
                  intro wq2 hbw st  K hK
                  have SA := HSZ.out.on' hbw
                  simp only [Act.put, List.setIfInBounds_toArray, List.set_cons_zero, List.set_cons_succ] at hK ⊢
                  unfold opStep
                  rw [if_pos (by rfl)]
                  go_simp
                  exact hK.out _ _ (Below.refl _ _) rfl _ rfl
                case s5 =>
                  intro wq2 hbw st  K hK
                  have SA := HSZ.out.on' hbw
                  simp only [Act.put, List.setIfInBounds_toArray, List.set_cons_zero, List.set_cons_succ] at hK ⊢
                  unfold opStep
                  rw [if_pos (by rfl)]
                  have ca := Lib.hid (HCA.out wq2 _ rfl SA.1)
                  have cc := ca.out.1
                  have ff := ca.out.2
                  go_simp
                  exact hK.out _ _ (Below.refl _ _) rfl _ rfl
                case s6 =>
                  intro wq2 hbw st  K hK
                  have SA := HSZ.out.on' hbw
                  simp only [Act.put, List.setIfInBounds_toArray, List.set_cons_zero, List.set_cons_succ] at hK ⊢
                  unfold opStep
                  rw [if_pos (by rfl)]
                  go_simp
                  exact hK.out _ _ (Below.refl _ _) rfl _ rfl
                case s7 =>
                  intro wq2 hbw st  K hK
                  have SA := HSZ.out.on' hbw
                  simp only [Act.put, List.setIfInBounds_toArray, List.set_cons_zero, List.set_cons_succ] at hK ⊢
                  unfold opStep
                  rw [if_pos (by rfl)]
                  go_simp
                  exact hK.out _ _ (Below.refl _ _) rfl _ rfl
                case s8 =>
                  intro wq2 hbw st  K hK
                  have SA := HSZ.out.on' hbw
                  simp only [Act.put, List.setIfInBounds_toArray, List.set_cons_zero, List.set_cons_succ] at hK ⊢
                  unfold opStep
                  rw [if_pos (by rfl)]
                  go_simp
                  exact hK.out _ _ (Below.refl _ _) rfl _ rfl
                case s9 =>
                  intro wq2 hbw st  K hK
                  have SA := HSZ.out.on' hbw
                  simp only [Act.put, List.setIfInBounds_toArray, List.set_cons_zero, List.set_cons_succ] at hK ⊢
                  unfold opStep
                  rw [if_pos (by rfl)]
                  go_simp
                  exact hK.out _ _ (Below.refl _ _) rfl _ rfl
                case s10 =>
                  intro wq2 hbw st  K hK
                  have SA := HSZ.out.on' hbw
                  simp only [Act.put, List.setIfInBounds_toArray, List.set_cons_zero, List.set_cons_succ] at hK ⊢
                  unfold opStep
                  rw [if_pos (by rfl)]
                  go_simp
                  exact hK.out _ _ (Below.refl _ _) rfl _ rfl
                case s11 =>
                  intro wq2 hbw st  K hK
                  have SA := HSZ.out.on' hbw
                  simp only [Act.put, List.setIfInBounds_toArray, List.set_cons_zero, List.set_cons_succ] at hK ⊢
                  unfold opStep
                  rw [if_pos (by rfl)]
                  go_simp
                  exact hK.out _ _ (Below.refl _ _) rfl _ rfl
                case s12 =>
                  intro wq2 hbw st  K hK
                  have SA := HSZ.out.on' hbw
                  simp only [Act.put, List.setIfInBounds_toArray, List.set_cons_zero, List.set_cons_succ] at hK ⊢
                  unfold opStep
                  rw [if_pos (by rfl)]
                  have ca := Lib.hid (HCA.out wq2 _ rfl SA.1)
                  have cc := ca.out.1
                  have ff := ca.out.2
                  go_simp
                  exact hK.out undef _ ⟨by have h0 := HAS.out _ _ SA (2 + k) (.int .u32 ((maskP (prI h k) (q + 1) : Nat) : Int)); rw [HST.out _ rfl] at h0; exact h0, (HBZ.out.on hbw).far (Nat.ne_of_gt hgl) _⟩ _ rfl
                case sfin =>
                  intro wq2
                  intro x12 h12
                  try simp only [FinAll]
                  simp only [Act.put, List.setIfInBounds_toArray, List.set_cons_zero, List.set_cons_succ]
                  go_wp2
                  go_roundg (h.length - (q + 1))
                  case measure => have := HM2.out; omega
                  case rel => exact ⟨q + 1, by omega, by go_num, h12.1, h12.2⟩
              · have HAN := Lib.hid (aft_no (h := h) (k := k) (q := q) (by rw [HPE.out]; exact Bool.eq_false_iff.2 hp))
                rw [Bool.eq_false_iff.2 hp]
                clear hp
                have HSN : Hid (SrA W w2 (W.heap.size + 1) W.heap.size (srchA (.slice (some ⟨b, off, none⟩) h.length cap) (mustK h (k + 1)) (aftK h k (q + 1)) W.heap.size 0)) := Lib.hid (by have h0 := HSZ.out; rw [srchA_congr (fun j => (show aftK h k q j = aftK h k (q + 1) j by unfold aftK; rw [HAN.out]))] at h0; exact h0)
                go_wp2
                go_roundg (h.length - (q + 1))
                case measure => have := HM2.out; omega
                case rel => exact ⟨q + 1, by omega, by go_num, HSN.out, HBZ.out⟩
            · have HSN : Hid (SrA W wr (W.heap.size + 1) W.heap.size (srchA (.slice (some ⟨b, off, none⟩) h.length cap) (mustK h (k + 1)) (aftK h (k + 1) 0) W.heap.size 0)) := Lib.hid (by have h0 := HSQ.out; rw [srchA_congr (aftK_row h k q (by omega))] at h0; exact h0)
              go_wp2
              go_roundg (h.length - (k + 1))
              case measure => have := HM.out; omega
              case rel => exact ⟨k + 1, by omega, by go_num, HSN.out⟩
      · have HMN := Lib.hid (mustK_no (h := h) (k := k) (by rw [HNX.out]; exact he))
        have HI : Hid (SrA W (wr.alloc (.cells #[.int .i64 (cliO x), .int .i64 (kindO x), .int .i64 (begO x), .int .i64 (endO x), .slice a4 (addO x).length c4, .slice a5 (seeO x).length c5] 37)) (W.heap.size + 1) W.heap.size (srchA (.slice (some ⟨b, off, none⟩) h.length cap) (mustK h (k + 1)) (aftK h k 0) W.heap.size 0) ∧ Blk (wr.alloc (.cells #[.int .i64 (cliO x), .int .i64 (kindO x), .int .i64 (begO x), .int .i64 (endO x), .slice a4 (addO x).length c4, .slice a5 (seeO x).length c5] 37)) wr.heap.size 37 #[.int .i64 (cliO x), .int .i64 (kindO x), .int .i64 (begO x), .int .i64 (endO x), .slice a4 (addO x).length c4, .slice a5 (seeO x).length c5]) := Lib.hid ⟨by have h0 := HSX.out (.cells #[.int .i64 (cliO x), .int .i64 (kindO x), .int .i64 (begO x), .int .i64 (endO x), .slice a4 (addO x).length c4, .slice a5 (seeO x).length c5] 37); rw [← HMN.out] at h0; exact h0, HBX.out⟩
        clear hshl HSX HBX HSR
        go_upto_region 7 with fail
        generalize hgx : wr.heap.size = gx at *
        generalize World.alloc wr _ = wy at *
        clear x0 x1 x2 x3 x4 x5 hgx
        go_wp2
        obtain ⟨G1, hG1⟩ : ∃ G, G = gk := ⟨_, rfl⟩
        subst hG1
        go_loopg [33] h.length (fun m i wq => ∃ q : Nat, m + q = h.length ∧ i = .int .i64 q ∧ SrA W wq (W.heap.size + 1) W.heap.size (srchA (.slice (some ⟨b, off, none⟩) h.length cap) (mustK h (k + 1)) (aftK h k q) W.heap.size 0) ∧ Blk wq gx 37 #[.int .i64 (cliO x), .int .i64 (kindO x), .int .i64 (begO x), .int .i64 (endO x), .slice a4 (addO x).length c4, .slice a5 (seeO x).length c5])
        case atStart => exact ⟨0, by omega, rfl, HI.out.1, HI.out.2⟩
        case round =>
          clear HI
          obtain ⟨q, hmq, rfl, hsr, hbx⟩ := hrel
          have HM2 := Lib.hid hmq
          have HSQ := Lib.hid hsr
          have HBQ := Lib.hid hbx
          have KQ := Lib.hid hsr.2.2
          have hq : q ≤ h.length := by omega
          clear hmq hsr hbx
          by_cases hql : q < h.length
          · obtain ⟨b', off', cap2', d4, k4, d5, k5, hv, _, _, n4, n5, l4, l5, hcell, s1, s2⟩ := HR.out.at2 hql
            injection hv with e5 e6 e7
            injection e5 with e5
            injection e5 with e5 e8
            subst e5 e8
            have hqi : (q : Int) < h.length := by omega
            have hq0 : (0 : Int) ≤ (q : Int) := by omega
            have hq16 : q < 16 := by omega
            have HN2 := Lib.hid (And.intro hcell (And.intro s1 s2))
            have HPE := Lib.hid (HPX.out q hql)
            have dd := Lib.hid (hcell wr KQ.out)
            have y0 := dd.out.1
            have y1 := dd.out.2.1
            have y2 := dd.out.2.2.1
            have y3 := dd.out.2.2.2.1
            have y4 := dd.out.2.2.2.2.1
            have y5 := dd.out.2.2.2.2.2
            clear e6 e7 hcell s1 s2 dd
            generalize h[q] = y at *
            clear hql
            have HSY := Lib.hid (fun o => HSQ.out.on' ((Below.refl wr.heap.size wr).alloc (Nat.le_refl _) o))
            have HBA := Lib.hid (fun o => HBQ.out.alloc o)
            have HBY := Lib.hid (Blk.new wr 37 #[.int .i64 (cliO y), .int .i64 (kindO y), .int .i64 (begO y), .int .i64 (endO y), .slice d4 (addO y).length k4, .slice d5 (seeO y).length k5])
            have hgx := HBQ.out.lt
            have kk := blk6 (HBA.out (.cells #[.int .i64 (cliO y), .int .i64 (kindO y), .int .i64 (begO y), .int .i64 (endO y), .slice d4 (addO y).length k4, .slice d5 (seeO y).length k5] 37))
            have z0 := kk.1
            have z1 := kk.2.1
            have z2 := kk.2.2.1
            have z3 := kk.2.2.2.1
            have z4 := kk.2.2.2.2.1
            have z5 := kk.2.2.2.2.2.1
            clear kk
            have HPC := Lib.hid (prec_any _ _ x y _ ⟨_, _, rfl, (HN.out.2.1.keep KQ.out).keep ((Below.refl wr.heap.size wr).alloc (Nat.le_refl _) (.cells #[.int .i64 (cliO y), .int .i64 (kindO y), .int .i64 (begO y), .int .i64 (endO y), .slice d4 (addO y).length k4, .slice d5 (seeO y).length k5] 37)), (HN.out.2.2.keep KQ.out).keep ((Below.refl wr.heap.size wr).alloc (Nat.le_refl _) _)⟩ ⟨_, _, rfl, (HN2.out.2.1.keep KQ.out).keep ((Below.refl wr.heap.size wr).alloc (Nat.le_refl _) _), (HN2.out.2.2.keep KQ.out).keep ((Below.refl wr.heap.size wr).alloc (Nat.le_refl _) _)⟩)
            go_wp2_with fail
            refine HPC.out.mono ?_
            rintro e w2 ⟨rfl, hb2⟩
            clear z0 z1 z2 z3 z4 z5 y0 y1 y2 y3 y4 y5 HPC
            have HSZ := Lib.hid ((HSY.out _).on' hb2)
            have HBZ := Lib.hid ((HBA.out _).on hb2)
            clear hb2 HSY HBA HBY
            by_cases hp : precB x y = true
            · have HAY := Lib.hid (aft_yes (h := h) (k := k) (q := q) (by rw [HPE.out]; exact hp))
              have hm16 := mask16 (prI h k) (show q ≤ 16 by omega)
              have hshl2 := shl_u32 hq16
              have hor2 : bits .or .u32 ((maskP (prI h k) q : Nat) : Int) ((2 : Int) ^ q) = ((maskP (prI h k) (q + 1) : Nat) : Int) := by rw [HAY.out]; exact or_u32 hm16 hq16
              have HCA : Hid (∀ (wq : World) cs, cs = srchA (.slice (some ⟨b, off, none⟩) h.length cap) (mustK h (k + 1)) (aftK h k q) W.heap.size 0 → Blk wq (W.heap.size + 1) 58 cs → wq.cell? ⟨W.heap.size + 1, 2 + k, none⟩ = some (.int .u32 ((maskP (prI h k) q : Nat) : Int)) ∧ wq.frozen? ⟨W.heap.size + 1, 2 + k, none⟩ = false) := Lib.hid fun wq cs hcs hB => by
                subst hcs
                refine ⟨(hB.cell (2 + k)).trans ?_, hB.frozen _⟩
                rw [srchA_aft _ _ _ _ _ k hk16]
                unfold aftK
                rw [if_neg (Nat.lt_irrefl k), if_pos rfl]
              have HST : Hid (∀ x, maskP (prI h k) (q + 1) = x → (srchA (.slice (some ⟨b, off, none⟩) h.length cap) (mustK h (k + 1)) (aftK h k q) W.heap.size 0).setIfInBounds (2 + k) (.int .u32 ((x : Nat) : Int)) = srchA (.slice (some ⟨b, off, none⟩) h.length cap) (mustK h (k + 1)) (aftK h k (q + 1)) W.heap.size 0) := Lib.hid fun x hx => by
                rw [srchA_set _ _ _ _ _ k _ hk16]
                exact srchA_congr (aftK_step h k q x hx)
              rw [hp]
              clear hp
              go_wp2_with fail
              refine region_loud [.is (.pointer (some ⟨W.heap.size + 1, 0, none⟩)), .is (.int .i64 (k : Int)), .is (.pointer (some ⟨W.heap.size + 1, 0, none⟩)), .is (.pointer (some ⟨W.heap.size + 1, 2, none⟩)), .is (.pointer (some ⟨W.heap.size + 1, 2 + k, none⟩)), .is (.int .u32 ((maskP (prI h k) q : Nat) : Int)), .is (.int .i64 (q : Int)), .is (.int .u32 ((2 : Int) ^ q)), .is (.int .u32 ((maskP (prI h k) (q + 1) : Nat) : Int)), .is (.pointer (some ⟨W.heap.size + 1, 0, none⟩)), .is (.pointer (some ⟨W.heap.size + 1, 2, none⟩)), .is (.pointer (some ⟨W.heap.size + 1, 2 + k, none⟩))] [] (.has (fun _ w => SrA W w (W.heap.size + 1) W.heap.size (srchA (.slice (some ⟨b, off, none⟩) h.length cap) (mustK h (k + 1)) (aftK h k (q + 1)) W.heap.size 0) ∧ Blk w gx 37 #[.int .i64 (cliO x), .int .i64 (kindO x), .int .i64 (begO x), .int .i64 (endO x), .slice a4 (addO x).length c4, .slice a5 (seeO x).length c5]) (fun _ _ _ hb h => ⟨h.1.on' hb, h.2.on hb⟩)) 12 rfl _ rfl (by kernel_rfl) rfl (by kernel_rfl) (by kernel_rfl) (by kernel_rfl) (by kernel_rfl) (.cons ?s0 (.cons ?s1 (.cons ?s2 (.cons ?s3 (.cons ?s4 (.cons ?s5 (.cons ?s6 (.cons ?s7 (.cons ?s8 (.cons ?s9 (.cons ?s10 (.cons ?s11 .nil)))))))))))) ?s12 (.nil) ?sfin
              case s0 =>
                intro wq2 hbw st  K hK
                have SA := HSZ.out.on' hbw
                simp only [Act.put, List.setIfInBounds_toArray, List.set_cons_zero, List.set_cons_succ] at hK ⊢
                unfold opStep
                rw [if_pos (by rfl)]
                go_simp
                exact hK.out _ _ (Below.refl _ _) rfl _ rfl
              case s1 =>
                intro wq2 hbw st  K hK
                have SA := HSZ.out.on' hbw
                simp only [Act.put, List.setIfInBounds_toArray, List.set_cons_zero, List.set_cons_succ] at hK ⊢
                unfold opStep
                rw [if_pos (by rfl)]
                go_simp
                exact hK.out _ _ (Below.refl _ _) rfl _ rfl
              case s2 =>
                intro wq2 hbw st  K hK
                have SA := HSZ.out.on' hbw
                simp only [Act.put, List.setIfInBounds_toArray, List.set_cons_zero, List.set_cons_succ] at hK ⊢
                unfold opStep
                rw [if_pos (by rfl)]
                go_simp
                exact hK.out _ _ (Below.refl _ _) rfl _ rfl
              case s3 =>
                intro wq2 hbw st  K hK
                have SA := HSZ.out.on' hbw
                simp only [Act.put, List.setIfInBounds_toArray, List.set_cons_zero, List.set_cons_succ] at hK ⊢
                unfold opStep
                rw [if_pos (by rfl)]
                go_simp
                exact hK.out _ _ (Below.refl _ _) rfl _ rfl
              case s4 =>
                intro wq2 hbw st  K hK
                have SA := HSZ.out.on' hbw
                simp only [Act.put, List.setIfInBounds_toArray, List.set_cons_zero, List.set_cons_succ] at hK ⊢
                unfold opStep
                rw [if_pos (by rfl)]
                go_simp
                exact hK.out _ _ (Below.refl _ _) rfl _ rfl
              case s5 =>
                intro wq2 hbw st  K hK
                have SA := HSZ.out.on' hbw
                simp only [Act.put, List.setIfInBounds_toArray, List.set_cons_zero, List.set_cons_succ] at hK ⊢
                unfold opStep
                rw [if_pos (by rfl)]
                have ca := Lib.hid (HCA.out wq2 _ rfl SA.1)
                have cc := ca.out.1
                have ff := ca.out.2
                go_simp
                exact hK.out _ _ (Below.refl _ _) rfl _ rfl
              case s6 =>
                intro wq2 hbw st  K hK
                have SA := HSZ.out.on' hbw
                simp only [Act.put, List.setIfInBounds_toArray, List.set_cons_zero, List.set_cons_succ] at hK ⊢
                unfold opStep
                rw [if_pos (by rfl)]
                go_simp
                exact hK.out _ _ (Below.refl _ _) rfl _ rfl
              case s7 =>
                intro wq2 hbw st  K hK
                have SA := HSZ.out.on' hbw
                simp only [Act.put, List.setIfInBounds_toArray, List.set_cons_zero, List.set_cons_succ] at hK ⊢
                unfold opStep
                rw [if_pos (by rfl)]
                go_simp
                exact hK.out _ _ (Below.refl _ _) rfl _ rfl
              case s8 =>
                intro wq2 hbw st  K hK
                have SA := HSZ.out.on' hbw
                simp only [Act.put, List.setIfInBounds_toArray, List.set_cons_zero, List.set_cons_succ] at hK ⊢
                unfold opStep
                rw [if_pos (by rfl)]
                go_simp
                exact hK.out _ _ (Below.refl _ _) rfl _ rfl
              case s9 =>
                intro wq2 hbw st  K hK
                have SA := HSZ.out.on' hbw
                simp only [Act.put, List.setIfInBounds_toArray, List.set_cons_zero, List.set_cons_succ] at hK ⊢
                unfold opStep
                rw [if_pos (by rfl)]
                go_simp
                exact hK.out _ _ (Below.refl _ _) rfl _ rfl
              case s10 =>
                intro wq2 hbw st  K hK
                have SA := HSZ.out.on' hbw
                simp only [Act.put, List.setIfInBounds_toArray, List.set_cons_zero, List.set_cons_succ] at hK ⊢
                unfold opStep
                rw [if_pos (by rfl)]
                go_simp
                exact hK.out _ _ (Below.refl _ _) rfl _ rfl
              case s11 =>
                intro wq2 hbw st  K hK
                have SA := HSZ.out.on' hbw
                simp only [Act.put, List.setIfInBounds_toArray, List.set_cons_zero, List.set_cons_succ] at hK ⊢
                unfold opStep
                rw [if_pos (by rfl)]
                go_simp
                exact hK.out _ _ (Below.refl _ _) rfl _ rfl
              case s12 =>
                intro wq2 hbw st  K hK
                have SA := HSZ.out.on' hbw
                simp only [Act.put, List.setIfInBounds_toArray, List.set_cons_zero, List.set_cons_succ] at hK ⊢
                unfold opStep
                rw [if_pos (by rfl)]
                have ca := Lib.hid (HCA.out wq2 _ rfl SA.1)
                have cc := ca.out.1
                have ff := ca.out.2
                go_simp
                exact hK.out undef _ ⟨by have h0 := HAS.out _ _ SA (2 + k) (.int .u32 ((maskP (prI h k) (q + 1) : Nat) : Int)); rw [HST.out _ rfl] at h0; exact h0, (HBZ.out.on hbw).far (Nat.ne_of_gt hgl) _⟩ _ rfl
              case sfin =>
                intro wq2
                intro x12 h12
                try simp only [FinAll]
                simp only [Act.put, List.setIfInBounds_toArray, List.set_cons_zero, List.set_cons_succ]
                go_wp2
                go_roundg (h.length - (q + 1))
                case measure => have := HM2.out; omega
                case rel => exact ⟨q + 1, by omega, by go_num, h12.1, h12.2⟩
            · have HAN := Lib.hid (aft_no (h := h) (k := k) (q := q) (by rw [HPE.out]; exact Bool.eq_false_iff.2 hp))
              rw [Bool.eq_false_iff.2 hp]
              clear hp
              have HSN : Hid (SrA W w2 (W.heap.size + 1) W.heap.size (srchA (.slice (some ⟨b, off, none⟩) h.length cap) (mustK h (k + 1)) (aftK h k (q + 1)) W.heap.size 0)) := Lib.hid (by have h0 := HSZ.out; rw [srchA_congr (fun j => (show aftK h k q j = aftK h k (q + 1) j by unfold aftK; rw [HAN.out]))] at h0; exact h0)
              go_wp2
              go_roundg (h.length - (q + 1))
              case measure => have := HM2.out; omega
              case rel => exact ⟨q + 1, by omega, by go_num, HSN.out, HBZ.out⟩
          · have HSN : Hid (SrA W wr (W.heap.size + 1) W.heap.size (srchA (.slice (some ⟨b, off, none⟩) h.length cap) (mustK h (k + 1)) (aftK h (k + 1) 0) W.heap.size 0)) := Lib.hid (by have h0 := HSQ.out; rw [srchA_congr (aftK_row h k q (by omega))] at h0; exact h0)
            go_wp2
            go_roundg (h.length - (k + 1))
            case measure => have := HM.out; omega
            case rel => exact ⟨k + 1, by omega, by go_num, HSN.out⟩
    · have HFI : Hid (SrA W wr (W.heap.size + 1) W.heap.size (srchA (.slice ao h.length cap) (mustK h h.length) (fun j => if j < h.length then maskP (prI h j) h.length else 0) W.heap.size 0)) := Lib.hid (by have h0 := HSR.out; rw [show k = h.length by omega, srchA_congr (aftK_all h)] at h0; exact h0)
      go_wp2
      go_ret
      exact ⟨_, _, rfl, Nat.le_succ _, Nat.le_refl _, by omega, HFI.out⟩
end Go.Proofs.Ytgaolgfjbgflgaa
