/-
  Chapter 29: what a call leaves as it was; the state of a search, and place.
-/
import Derived.Test.YtfdicndmebhmdaaEb
namespace Go.Proofs.Ytfdicndmebhmdaa
open Go.RowKit

/-- All blocks but those of S are as before. -/
structure Kept (S : Nat → Prop) (w w' : World) : Prop where
  os : w'.os = w.os
  tape : w'.tape = w.tape
  output : w'.output = w.output
  size : w.heap.size ≤ w'.heap.size
  block : ∀ k, k < w.heap.size → ¬ S k → w'.heap[k]? = w.heap[k]?
section
variable {S S' : Nat → Prop} {w w' w'' : World}
theorem Kept.refl (S : Nat → Prop) (w : World) : Kept S w w := ⟨rfl, rfl, rfl, Nat.le_refl _, fun _ _ _ => rfl⟩
theorem Kept.trans (h : Kept S w w') (k : Kept S w' w'') : Kept S w w'' := ⟨k.os.trans h.os, k.tape.trans h.tape, k.output.trans h.output, Nat.le_trans h.size k.size, fun i hi hs => (k.block i (Nat.lt_of_lt_of_le hi h.size) hs).trans (h.block i hi hs)⟩
theorem Kept.mono (h : Kept S w w') (hs : ∀ k, k < w.heap.size → S k → S' k) : Kept S' w w' := ⟨h.os, h.tape, h.output, h.size, fun i hi hn => h.block i hi fun q => hn (hs i hi q)⟩
theorem Kept.of (h : Below w.heap.size w w') : Kept S w w' := ⟨h.os, h.tape, h.output, h.size, fun i hi _ => h.block i hi⟩
theorem Kept.ofG {row : Option Nat} (h : w.grownBy w' row) (hs : ∀ k, some k = row → S k) : Kept S w w' := ⟨h.os, h.tape, h.output, h.size, fun i hi hn => h.block i hi fun q => hn (hs i q)⟩
theorem Kept.below {B : Nat} (h : Kept S w w') (hB : B ≤ w.heap.size) (hs : ∀ k, k < B → ¬ S k) : Below B w w' := ⟨h.os, h.tape, h.output, h.size, fun i hi => h.block i (by omega) (hs i hi)⟩
theorem Kept.set {p : Addr} (u : Value) (hp : S p.block) : Kept S w (w.setCell p u) :=
  ⟨rfl, rfl, rfl, by simp [World.setCell], fun i _ hs => Below.heap_setCell w p u i (fun e => hs (e ▸ hp))⟩
theorem Kept.blk {g : Nat} {t : TypeId} {cs : Array Value} (h : Kept S w w') (hb : Blk w g t cs) (hg : ¬ S g) : Blk w' g t cs := (h.block g hb.lt hg).trans hb
theorem Reads.own_lt {α : Type} {enc : α → Value} {w : World} {v : Value} {xs : List α} (h : Reads enc w v xs) (hne : xs ≠ []) {b : Nat} (hb : v.ownBlock = some b) : b < w.heap.size := by
  obtain ⟨ao, cap, rfl, hl, hm, hn, hx⟩ := h
  obtain ⟨b', off, rfl, hlt, _⟩ := hx hne
  simp [Value.ownBlock] at hb
  omega
theorem Kept.reads {α : Type} {enc : α → Value} {v : Value} {xs : List α} (h : Kept S w w') (hr : Reads enc w v xs) (hs : ∀ b, v.ownBlock = some b → ¬ S b) : Reads enc w' v xs := by
  obtain ⟨ao, cap, rfl, hl, hm, hn, hx⟩ := hr
  refine ⟨ao, cap, rfl, hl, hm, hn, fun hne => ?_⟩
  obtain ⟨b, off, rfl, hlt, hc⟩ := hx hne
  exact ⟨b, off, rfl, Nat.lt_of_lt_of_le hlt h.size, fun j hj => (World.cell?_of_block (a := ⟨b, off + j, none⟩) (h.block b hlt (hs b rfl))).trans (hc j hj)⟩
theorem Kept.row {base s n : Nat} {e : TypeId} {v : Value} {xs : List Value} (h : Kept S w w') (hr : w.ownsRow base e s v n xs) (hs : ∀ b, v.ownBlock = some b → ¬ S b) : w'.ownsRow base e s v n xs := by
  refine ⟨hr.1, ?_⟩
  rcases hr.2 with hn | ⟨g, cap, cur, rfl, hb, hg, rest⟩
  · exact .inl hn
  · refine .inr ⟨g, cap, cur, rfl, hb, ?_, rest⟩
    rw [h.block g (Array.getElem?_eq_some_iff.1 hg).1 (hs g rfl)]
    exact hg
end
theorem blk_ne {w : World} {a b : Nat} {t t' : TypeId} {cs cs' : Array Value} (h : Blk w a t cs) (k : Blk w b t' cs') (hne : t ≠ t') : a ≠ b := by
  rintro rfl
  unfold Blk at h k
  rw [h] at k
  injection k with k
  injection k with _ k
  exact hne k

/-- Natural numbers as Go's ints. -/
def nv (k : Nat) : Value := .int .i64 (k : Int)
/-- A search over the trace t of which the events of us are placed. -/
structure Srch (M0 N0 : Nat) (w : World) (gs gw gn gu : Nat) (tv : Value) (t : List Ev) (us : Nat → Bool) : Prop where
  bs : Blk w gs 65 #[tv, .slice (some ⟨gw, 0, none⟩) t.length t.length, .slice (some ⟨gn, 0, none⟩) t.length t.length, .slice (some ⟨gu, 0, none⟩) t.length t.length]
  bw : Blk w gw 3 (rowF t.length fun k => .int .i64 ((wtE t us k : Nat) : Int))
  bu : Blk w gu 4 (rowF t.length fun k => .bool (us k))
  nx : ∃ f : Nat → Value, Blk w gn 25 (rowF t.length f) ∧ ∀ k, k < t.length → Reads nv w (f k) (sucE t k) ∧ ∀ b, (f k).ownBlock = some b → (M0 ≤ b ∧ b < N0) ∧ b ≠ gw ∧ b ≠ gu
  ge : M0 ≤ gs ∧ M0 ≤ gw ∧ M0 ≤ gn ∧ M0 ≤ gu
  lt : gs < N0 ∧ gw < N0 ∧ gn < N0 ∧ gu < N0
theorem Srch.kept {M0 N0 : Nat} {S : Nat → Prop} {w w' : World} {gs gw gn gu : Nat} {tv : Value} {t : List Ev} {us : Nat → Bool} (h : Srch M0 N0 w gs gw gn gu tv t us) (k : Kept S w w') (hs : ∀ b, M0 ≤ b → b < N0 → ¬ S b) : Srch M0 N0 w' gs gw gn gu tv t us := by
  obtain ⟨f, h1, h2⟩ := h.nx
  exact ⟨k.blk h.bs (hs _ h.ge.1 h.lt.1), k.blk h.bw (hs _ h.ge.2.1 h.lt.2.1), k.blk h.bu (hs _ h.ge.2.2.2 h.lt.2.2.2), ⟨f, k.blk h1 (hs _ h.ge.2.2.1 h.lt.2.2.1), fun j hj => ⟨k.reads (h2 j hj).1 fun b hb => hs b ((h2 j hj).2 b hb).1.1 ((h2 j hj).2 b hb).1.2, (h2 j hj).2⟩⟩, h.ge, h.lt⟩
theorem Srch.on {M0 N0 : Nat} {w w' : World} {gs gw gn gu : Nat} {tv : Value} {t : List Ev} {us : Nat → Bool} (h : Srch M0 N0 w gs gw gn gu tv t us) (hb : Below w.heap.size w w') : Srch M0 N0 w' gs gw gn gu tv t us :=
  h.kept (Kept.of (S := fun _ => False) hb) fun _ _ _ q => q
def PlS (gw gu : Nat) : Nat → Prop := fun k => k = gw ∨ k = gu

set_option maxRecDepth 100000 in
set_option maxHeartbeats 2000000 in
theorem place_any (M0 N0 gs gw gn gu i : Nat) (on : Bool) (tv : Value) (t : List Ev) (us : Nat → Bool) (w : World) (h : Srch M0 N0 w gs gw gn gu tv t us) (hi : i < t.length) (hu : us i = !on) (hn : t.length ≤ 1000) :
    Calls Try.prog 35 #[.pointer (some ⟨gs, 0, none⟩), .int .i64 (i : Int), .bool on] w fun e w' => e = .returned (.tuple #[]) ∧ Srch M0 N0 w' gs gw gn gu tv t (setU us i on) ∧ Kept (PlS gw gu) w w' := by
  have HS := Lib.hid h
  obtain ⟨f, bn, hnx⟩ := h.nx
  have HF := Lib.hid (And.intro bn hnx)
  have n1 : gs ≠ gw := blk_ne h.bs h.bw (by decide)
  have n2 : gs ≠ gu := blk_ne h.bs h.bu (by decide)
  have n3 : gn ≠ gw := blk_ne bn h.bw (by decide)
  have n4 : gn ≠ gu := blk_ne bn h.bu (by decide)
  have n5 : gw ≠ gu := blk_ne h.bw h.bu (by decide)
  have HN := Lib.hid (And.intro n1 (And.intro n2 (And.intro n3 (And.intro n4 n5))))
  have HI := Lib.hid (And.intro hi hu)
  have HR := Lib.hid (hnx i hi)
  have q3 := h.bs.cell 3
  have q3' : w.cell? ⟨gs, 3, none⟩ = some (.slice (some ⟨gu, 0, none⟩) t.length t.length) := q3
  have c0 := (h.bu.cell i).trans (rowF_get hi)
  have f0 := h.bu.frozen i
  have l0 := h.bu.lt
  have hii : (i : Int) < t.length := by omega
  have hi0 : (0 : Int) ≤ (i : Int) := by omega
  clear h bn hnx n1 n2 n3 n4 n5 q3
  go_enter Try.func35, Try.ntmps35
  go_upto_region 1 with fail
  have HK1 : Hid (Kept (PlS gw gu) w (w.setCell ⟨gu, i, none⟩ (.bool on))) := Lib.hid (Kept.set _ (.inr rfl))
  have HB1 : Hid (Blk (w.setCell ⟨gu, i, none⟩ (.bool on)) gu 4 (rowF t.length fun k => .bool (setU us i on k))) := Lib.hid (by
    have h1 := HS.out.bu.set_ i (.bool on)
    rw [rowF_set] at h1
    have e : (fun j => if j = i then Value.bool on else .bool (us j)) = fun k => .bool (setU us i on k) := funext fun j => by unfold setU; split <;> rfl
    rwa [e] at h1)
  have HB2 : Hid (Blk (w.setCell ⟨gu, i, none⟩ (.bool on)) gw 3 (rowF t.length fun k => .int .i64 ((wtQ t us i on 0 k : Nat) : Int))) := Lib.hid (by
    rw [wtQ_zero]
    exact HS.out.bw.far (p := ⟨gu, i, none⟩) HN.out.2.2.2.2 _)
  generalize w.setCell ⟨gu, i, none⟩ (.bool on) = w1 at *
  have HM : Hid (∀ wr, Kept (PlS gw gu) w wr → Blk wr gs 65 #[tv, .slice (some ⟨gw, 0, none⟩) t.length t.length, .slice (some ⟨gn, 0, none⟩) t.length t.length, .slice (some ⟨gu, 0, none⟩) t.length t.length] ∧ Blk wr gn 25 (rowF t.length f) ∧ Reads nv wr (f i) (sucE t i)) :=
    Lib.hid fun wr hk => ⟨hk.blk HS.out.bs (by rintro (e | e); exact HN.out.1 e; exact HN.out.2.1 e), hk.blk HF.out.1 (by rintro (e | e); exact HN.out.2.2.1 e; exact HN.out.2.2.2.1 e), hk.reads HR.out.1 fun b hb => by rintro (e | e); exact (HR.out.2 b hb).2.1 e; exact (HR.out.2 b hb).2.2 e⟩
  have q2 : w1.cell? ⟨gs, 2, none⟩ = some (.slice (some ⟨gn, 0, none⟩) t.length t.length) := (HM.out w1 HK1.out).1.cell 2
  have cn := ((HM.out w1 HK1.out).2.1.cell i).trans (rowF_get HI.out.1)
  obtain ⟨ao, cap, hv, hl, hm, -, -⟩ := HR.out.1
  have HV := Lib.hid hv
  rw [hv] at cn
  unfold maxLen at hm
  clear hv q3' c0 f0 l0
  have hfin : ∀ wr, Blk wr gw 3 (rowF t.length fun k => .int .i64 ((wtQ t us i on (sucE t i).length k : Nat) : Int)) → Blk wr gu 4 (rowF t.length fun k => .bool (setU us i on k)) → Kept (PlS gw gu) w wr → Srch M0 N0 wr gs gw gn gu tv t (setU us i on) := fun wr h1 h2 h3 => by
    refine ⟨(HM.out wr h3).1, ?_, h2, ⟨f, (HM.out wr h3).2.1, fun j hj => ⟨h3.reads (HF.out.2 j hj).1 fun b hb => ?_, (HF.out.2 j hj).2⟩⟩, HS.out.ge, HS.out.lt⟩
    · rw [rowF_congr (g' := fun k => .int .i64 ((wtE t (setU us i on) k : Nat) : Int)) (fun k hk => by rw [wtQ_all t us i on hk])] at h1
      exact h1
    · rintro (e | e)
      · exact ((HF.out.2 j hj).2 b hb).2.1 e
      · exact ((HF.out.2 j hj).2 b hb).2.2 e
  have HFIN := Lib.hid hfin
  clear hfin
  go_wp2
  clear q2 cn
  go_loopg [23] (sucE t i).length (fun m q wr => ∃ k : Nat, m + k = (sucE t i).length ∧ q = .int .i64 k ∧ Blk wr gw 3 (rowF t.length fun j => .int .i64 ((wtQ t us i on k j : Nat) : Int)) ∧ Blk wr gu 4 (rowF t.length fun j => .bool (setU us i on j)) ∧ Kept (PlS gw gu) w wr)
  case atStart => exact ⟨0, by omega, rfl, HB2.out, HB1.out, HK1.out⟩
  case round =>
    clear HB1 HB2 HK1
    obtain ⟨q, hmq, rfl, hw, hub, hk⟩ := hrel
    have HQ := Lib.hid hmq
    have HW := Lib.hid hw
    have HU := Lib.hid hub
    have HK := Lib.hid hk
    have hq : q ≤ (sucE t i).length := by omega
    clear hmq hw hub hk
    by_cases hlt : q < (sucE t i).length
    · have HL := Lib.hid (And.intro hlt trivial)
      have hqi : (q : Int) < (sucE t i).length := by omega
      have hq0 : (0 : Int) ≤ (q : Int) := by omega
      have hrd := (HM.out wr HK.out).2.2
      rw [HV.out] at hrd
      obtain ⟨ao', cap', hv', -, -, -, hx⟩ := hrd
      injection hv' with e1 e2 e3
      subst e1 e3
      obtain ⟨b, off, rfl, hb, hc⟩ := hx (by intro e; rw [e] at hlt; simp at hlt)
      have c1 := hc q hlt
      have hmem : (sucE t i)[q] ∈ sucE t i := List.getElem_mem hlt
      have hsu := mem_sucE.1 hmem
      have HAT := Lib.hid (wtQ_at (us := us) (b := on) hlt)
      have HSC := Lib.hid (fun k => wtQ_succ (us := us) (b := on) hlt k)
      have hon : on = true → wtE t us (sucE t i)[q] = wtE t (setU us i true) (sucE t i)[q] + 1 := fun e => wt_on (by rw [HI.out.2, e]; rfl) hsu.1 hsu.2.2
      have hoff : on = false → wtE t (setU us i false) (sucE t i)[q] = wtE t us (sucE t i)[q] + 1 := fun e => wt_off (by rw [HI.out.2, e]; rfl) hsu.1 hsu.2.2
      have HON := Lib.hid (And.intro hon hoff)
      have hle := wt_le t us (sucE t i)[q]
      have hkn := hsu.2.1
      unfold nv at c1
      clear hx hc e2 hmem hsu hon hoff
      generalize (sucE t i)[q] = k at *
      clear hlt
      have c2 := (HW.out.cell k).trans (rowF_get hkn)
      rw [HAT.out] at c2
      have f2 := HW.out.frozen k
      have l2 := HW.out.lt
      have q1 : wr.cell? ⟨gs, 1, none⟩ = some (.slice (some ⟨gw, 0, none⟩) t.length t.length) := (HM.out wr HK.out).1.cell 1
      have hki : (k : Int) < t.length := by omega
      have hk0 : (0 : Int) ≤ (k : Int) := by omega
      have HNXT : Hid (∀ (x : Nat), wtE t (setU us i on) k = x → Blk (wr.setCell ⟨gw, k, none⟩ (.int .i64 (x : Int))) gw 3 (rowF t.length fun j => .int .i64 ((wtQ t us i on (q + 1) j : Nat) : Int)) ∧ Blk (wr.setCell ⟨gw, k, none⟩ (.int .i64 (x : Int))) gu 4 (rowF t.length fun j => .bool (setU us i on j)) ∧ Kept (PlS gw gu) w (wr.setCell ⟨gw, k, none⟩ (.int .i64 (x : Int)))) := Lib.hid fun x hx => by
        refine ⟨?_, HU.out.far (p := ⟨gw, k, none⟩) (fun e => HN.out.2.2.2.2 e.symm) _, HK.out.trans (Kept.set _ (.inl rfl))⟩
        have h1 := HW.out.set_ k (.int .i64 (x : Int))
        rw [rowF_set] at h1
        rw [rowF_congr (g' := fun j => .int .i64 ((wtQ t us i on (q + 1) j : Nat) : Int)) (fun j _ => by
          rw [HSC.out j]
          by_cases e : j = k
          · rw [if_pos e, if_pos e, e, hx]
          · rw [if_neg e, if_neg e])] at h1
        exact h1
      clear HW HU HAT HSC
      cases on with
      | true =>
        have hx := HON.out.1 rfl
        generalize wtE t us k = x at *
        generalize wtE t (setU us i true) k = y at *
        subst hx
        have HR2 := Lib.hid (HNXT.out y rfl)
        clear HNXT HON
        go_wp2
        go_roundg ((sucE t i).length - (q + 1))
        case measure => have := HQ.out; omega
        case rel =>
          refine ⟨q + 1, by have := HL.out.1; omega, by go_num, ?_⟩
          have e : ((y + 1 : Nat) : Int) - 1 = (y : Int) := by omega
          first | exact HR2.out | (simp only [Int.natCast_add, Int.natCast_one, Int.add_sub_cancel]; exact HR2.out)
      | false =>
        have hx := HON.out.2 rfl
        generalize wtE t us k = x at *
        generalize wtE t (setU us i false) k = y at *
        subst hx
        have HR2 := Lib.hid (HNXT.out (x + 1) rfl)
        clear HNXT HON
        go_wp2
        go_roundg ((sucE t i).length - (q + 1))
        case measure => have := HQ.out; omega
        case rel =>
          refine ⟨q + 1, by have := HL.out.1; omega, by go_num, ?_⟩
          first | exact HR2.out | (simpa using HR2.out)
    · have e : q = (sucE t i).length := by omega
      subst e
      have HR2 := Lib.hid (HFIN.out wr HW.out HU.out HK.out)
      go_wp2
      refine bodyPost_end (results_none rfl _ _ _) rfl ?_
      exact ⟨rfl, HR2.out, HK.out⟩
end Go.Proofs.Ytfdicndmebhmdaa
