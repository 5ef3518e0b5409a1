/-
  Chapter 29: what came in, opened: traces.
-/
import Derived.Test.YtfdicndmebhmdaaEb
import Derived.Test.YtfdicndmebhmdaaLp
import Derived.Deep.Slices
import Derived.ChangeArms
import Derived.ChangeSlices
import Derived.DataShut
namespace Go.Proofs.Ytfdicndmebhmdaa
open Go.ChangeShapes Go.WideShapes Go.ChangeAt Go.RowKit

set_option maxRecDepth 100000
section
variable {H : Type} {enc : TypeId × Value → H} {W : World}

/-- A cell that reads lies in a block that is there. -/
theorem cell_in {a : Addr} {v : Value} (h : W.cell? a = some v) : a.spot = none ∧ a.block < W.heap.size := by
  refine ⟨?_, World.block_lt_of_cell? W a h⟩
  unfold World.cell? at h
  split at h
  · by_cases hs : a.spot.isSome = true
    · simp [hs] at h
    · simpa using hs
  · cases h

theorem open_slc {α : Type} {K : Nat} {E : World → List Value → α → Prop} {t e : TypeId} (ht : Try.prog.underlying t = some (.slice e)) (hC : Try.prog.cellsOf e = K) (hK : 0 < K)
    (hopen : ∀ n cs y, DataW.trod enc Try.prog W 0 (fun _ => true) true n e cs = some y → cs.length = K → ∃ x, E W cs x)
    {n : Nat} {v : Value} {y : DataW H × List MemPlace} (h : DataW.trod enc Try.prog W 0 (fun _ => true) true n t [v] = some y) : ∃ xs : List α, ReadsK K E W v xs := by
  rcases Deep.open_slice ht h with ⟨hcs, _⟩ | ⟨a, len, cap, m, n, D, Pl, hcs, _, hl, hm, hmm, _, hi⟩
  · injection hcs with hcs _
    subst hcs
    exact ⟨[], ReadsK.nil W⟩
  · injection hcs with hcs _
    subst hcs
    simp only [if_true] at hmm
    subst hmm
    rw [hC] at hi
    have hall : ∀ i, i < len → ∃ x : α, ∃ cs : List Value, cs.length = K ∧ (∀ j, j < K → W.cell? ((a.add (i * K)).add j) = cs[j]?) ∧ E W cs x := by
      intro i hlt
      obtain ⟨cs, h1, h2⟩ := hi i (by omega)
      obtain ⟨_, h3, h4⟩ := World.cells?_some h1
      obtain ⟨x, hx⟩ := hopen _ _ _ h2 h3
      exact ⟨x, cs, h3, h4, hx⟩
    refine ⟨List.ofFn fun i : Fin len => Classical.choose (hall i.1 i.2), some a, m, by simp, by simpa using hl, hm, (fun h => by cases h), fun hne => ?_⟩
    have h0 : 0 < len := by
      rcases Nat.eq_zero_or_pos len with e | e
      · subst e; exact absurd (by simp) hne
      · exact e
    obtain ⟨_, cs, h1, h2, _⟩ := hall 0 h0
    have h3 := h2 0 hK
    rw [List.getElem?_eq_getElem (by omega)] at h3
    have h4 := cell_in h3
    obtain ⟨b, o, sp⟩ := a
    have h5 : sp = none := by simpa [Addr.add] using h4.1
    subst h5
    refine ⟨b, o, rfl, by simpa [Addr.add] using h4.2, fun j hj => ?_⟩
    rw [List.length_ofFn] at hj
    rw [List.getElem_ofFn]
    obtain ⟨cs, h1, h2, h3⟩ := Classical.choose_spec (hall j hj)
    refine ⟨cs, h1, fun i u hu => ?_, h3⟩
    have hlt : i < cs.length := (List.getElem?_eq_some_iff.1 hu).1
    have h6 := h2 i (by omega)
    rw [hu] at h6
    rw [← h6]
    congr 1
    simp only [Addr.add]
    by_cases e1 : j * K = 0 <;> by_cases e2 : i = 0 <;> simp_all

/-- One cell each. -/
theorem ReadsK.one {α : Type} {e : α → Value} {v : Value} {xs : List α} (h : ReadsK 1 (fun _ cs x => cs = [e x]) W v xs) : Reads e W v xs := by
  obtain ⟨ao, cap, rfl, hl, hm, hn, hx⟩ := h
  refine ⟨ao, cap, rfl, hl, hm, hn, fun he => ?_⟩
  obtain ⟨b, off, rfl, hb, hc⟩ := hx he
  refine ⟨b, off, rfl, hb, fun j hj => ?_⟩
  obtain ⟨cs, h1, h2, rfl⟩ := hc j hj
  simpa using h2 0 _ rfl

theorem trod_ints {n : Nat} {v : Value} {y : DataW H × List MemPlace} (h : DataW.trod enc Try.prog W 0 (fun _ => true) true n 25 [v] = some y) : ∃ xs : List Int, Reads vi W v xs := by
  obtain ⟨xs, hx⟩ := open_slc (K := 1) (E := fun _ cs x => cs = [vi x]) Try.underlying25 (by kernel_rfl) (by omega) (fun n cs y h _ => by
    obtain ⟨k, rfl, _⟩ := DataW.trod_int Try.underlying3 h
    exact ⟨k, rfl⟩) h
  exact ⟨xs, hx.one⟩
theorem trod_ev {n : Nat} {cs : List Value} {y : DataW H × List MemPlace} (h : DataW.trod enc Try.prog W 0 (fun _ => true) true n 29 cs = some y) (hl : cs.length = 2) : ∃ x, EvE W cs x := by
  match cs, hl with
  | [c0, c1], _ =>
    obtain ⟨xs, m, _, _, _, hlen, hf⟩ := DataW.trod_struct Try.underlying29 h
    match xs, hlen with
    | [y0, y1], _ =>
      have h0 : DataW.trod enc Try.prog W 0 (fun _ => true) true m 3 [c0] = some y0 := hf 0 _ rfl
      have h1 : DataW.trod enc Try.prog W 0 (fun _ => true) true m 25 [c1] = some y1 := hf 1 _ rfl
      obtain ⟨a0, e0, _⟩ := DataW.trod_int Try.underlying3 h0
      obtain ⟨a1, r1⟩ := trod_ints h1
      injection e0 with e0 _
      subst e0
      exact ⟨(a0, a1), c1, rfl, r1⟩

variable {base : Nat} {v : Value} {d : DataW H} {p : List MemPlace}
theorem open_tr (hok : Value.okWide Try.prog W .any base 22 v) (h : DataW.Trod enc Try.prog W 0 (fun _ => true) true 22 v d p) : ∃ xs : List Ev, ReadsE W v xs := by
  obtain ⟨a0, len, cap, rfl⟩ := okWide_slice Try.underlying22 hok
  obtain ⟨fuel, hf⟩ := h
  exact open_slc (K := 2) (E := EvE) Try.underlying22 (by kernel_rfl) (by omega) (fun n cs y h hl => trod_ev h hl) (by simpa only [Value.cells] using hf)
end
end Go.Proofs.Ytfdicndmebhmdaa
