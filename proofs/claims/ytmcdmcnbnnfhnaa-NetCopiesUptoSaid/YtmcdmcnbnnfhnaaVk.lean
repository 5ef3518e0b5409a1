/-
  Chapter 28: arguments opened: byte strings and lists of structs, as data in memory.
-/
import Derived.Test.YtmcdmcnbnnfhnaaDe
import Derived.Test.YtmcdmcnbnnfhnaaLp
import Derived.Deep.Slices
import Derived.ChangeArms
import Derived.ChangeSlices
import Derived.DataShut
namespace Go.Proofs.Ytmcdmcnbnnfhnaa
open Go.ChangeShapes Go.WideShapes Go.ChangeAt Go.RowKit

set_option maxRecDepth 100000
section
variable {H : Type} {enc : TypeId × Value → H} {W : World}
/-- A cell that reads lies in a block that is there. -/
theorem cell_in {a : Addr} {v : Value} (h : W.cell? a = some v) : a.spot = none ∧ a.block < W.heap.size := by
  refine ⟨?_, World.block_lt_of_cell? W a h⟩
  unfold World.cell? at h
  split at h
  · by_cases hs : a.spot.isSome = true
    · simp [hs] at h
    · simpa using hs
  · cases h
theorem free_left {ps qs : List MemPlace} (h : W.noneFrozen (ps ++ qs)) : W.noneFrozen ps := fun b o hm => h b o (List.mem_append_left _ hm)
theorem free_right {ps qs : List MemPlace} (h : W.noneFrozen (ps ++ qs)) : W.noneFrozen qs := fun b o hm => h b o (List.mem_append_right _ hm)
/-- A slice that came in, its elements opened one by one: its data, if they are at most 1048576. -/
theorem open_ls {α : Type} {f : α → List DV} {K : Nat} {t e : TypeId} (ht : Try.prog.underlying t = some (.slice e)) (hC : Try.prog.cellsOf e = K) (hK : 0 < K) {n : Nat} {v : Value} {y : DataW H × List MemPlace}
    (h : DataW.trod enc Try.prog W 0 (fun _ => true) true n t [v] = some y) (hf : W.noneFrozen y.2)
    (hopen : ∀ m cs d ps, DataW.trod enc Try.prog W 0 (fun _ => true) true m e cs = some (d, ps) → cs.length = K → W.noneFrozen ps → (∃ es sp, y.1 = .slice es sp ∧ d ∈ es) → ∃ x, CellsD (fun _ => True) W cs (f x)) :
    ∃ (s : Option Addr) (l : List α) (c : Nat), v = .slice s l.length c ∧ l.length ≤ c ∧ c ≤ maxLen ∧ (l.length ≤ 1048576 → ReadsD (fun _ => True) W v (.ls K (l.map f))) ∧ (l.length = 0 ∨ ∃ es sp, y.1 = .slice es sp ∧ es.length = l.length) := by
  rcases Deep.open_slice ht h with ⟨hcs, _⟩ | ⟨a, len, cap, m, n', D, Pl, hcs, _, hl, hm, hmm, hy, hi⟩
  · injection hcs with hcs _
    subst hcs
    exact ⟨none, [], 0, rfl, Nat.le_refl _, by simp [maxLen], fun _ => .nil K none 0 (by simp [maxLen]) fun _ => rfl, .inl rfl⟩
  · injection hcs with hcs _
    subst hcs
    simp only [if_true] at hmm
    subst hmm
    rw [hC] at hi hy
    subst hy
    have hfr : ∀ i, i < len → ∀ j, j < K → W.frozen? ⟨a.block, a.off + (i * K + j), none⟩ = false := fun i hil j hj => by
      refine hf _ _ (List.mem_append_left _ ?_)
      unfold MemPlace.row
      refine List.mem_map.2 ⟨i * K + j, List.mem_range.2 ?_, rfl⟩
      have h1 : i * K + K ≤ m * K := by rw [← Nat.succ_mul]; exact Nat.mul_le_mul_right _ (by omega)
      omega
    have hall : ∀ i, i < len → ∃ x : α, ∃ cs : List Value, cs.length = K ∧ (∀ j, j < K → W.cell? ((a.add (i * K)).add j) = cs[j]?) ∧ CellsD (fun _ => True) W cs (f x) := by
      intro i hlt
      obtain ⟨cs, h1, h2⟩ := hi i (by omega)
      obtain ⟨_, h3, h4⟩ := World.cells?_some h1
      obtain ⟨x, hx⟩ := hopen _ _ _ _ h2 h3 (fun b o hm => hf b o (List.mem_append_right _ (List.mem_flatMap.2 ⟨i, List.mem_range.2 (by omega), hm⟩))) ⟨_, _, rfl, List.mem_map.2 ⟨i, List.mem_range.2 hlt, rfl⟩⟩
      exact ⟨x, cs, h3, h4, hx⟩
    refine ⟨some a, List.ofFn fun i : Fin len => Classical.choose (hall i.1 i.2), m, by simp, by simpa using hl, hm, fun hL => ?_, .inr ⟨_, _, rfl, by simp⟩⟩
    by_cases h0 : len = 0
    · subst h0
      simp only [List.ofFn_zero, List.map_nil]
      exact .nil K _ m hm fun e => by cases e
    have hpos : 0 < len := by omega
    obtain ⟨_, cs, h1, h2, _⟩ := hall 0 hpos
    have h3 := h2 0 hK
    rw [List.getElem?_eq_getElem (by omega)] at h3
    have h4 := cell_in h3
    obtain ⟨b, o, sp⟩ := a
    have h5 : sp = none := by simpa [Addr.add] using h4.1
    subst h5
    have hlen : ((List.ofFn fun i : Fin len => Classical.choose (hall i.1 i.2)).map f).length = len := by simp
    rw [List.length_ofFn] at hL
    have hchoose : ∀ j (hj : j < len), ∃ cs : List Value, cs.length = K ∧ (∀ i, i < K → W.cell? ⟨b, o + j * K + i, none⟩ = cs[i]?) ∧ CellsD (fun _ => True) W cs (f (Classical.choose (hall j hj))) := fun j hj => by
      obtain ⟨cs, h1, h2, h3⟩ := Classical.choose_spec (hall j hj)
      refine ⟨cs, h1, fun i hi => ?_, h3⟩
      rw [← h2 i hi]
      congr 1
      simp only [Addr.add]
      by_cases e1 : j * K = 0 <;> by_cases e2 : i = 0 <;> simp_all
    have hv : Value.slice (some ⟨b, o, none⟩) len m = .slice (some ⟨b, o, none⟩) ((List.ofFn fun i : Fin len => Classical.choose (hall i.1 i.2)).map f).length m := by rw [hlen]
    rw [hv]
    refine .ls (fun j i => ((if hj : j < len then Classical.choose (hchoose j hj) else [])[i]?).getD undef) (by intro e; rw [e] at hlen; simp at hlen; omega) (by rw [hlen]; exact hL) (by rw [hlen]; omega) hm trivial (by simpa [Addr.add] using h4.2) (fun q hq => ?_) (fun j hj => ?_) (fun j hj i hi => ?_) (fun j hj i hi => ?_)
    · rw [hlen] at hq
      have h6 := hfr (q / K) ((Nat.div_lt_iff_lt_mul hK).2 hq) (q % K) (Nat.mod_lt _ hK)
      rw [Nat.div_add_mod' q K] at h6
      exact h6
    · rw [hlen] at hj
      rw [List.getElem_map, List.getElem_ofFn]
      obtain ⟨cs, g1, _, g3⟩ := hchoose j hj
      exact g3.1.symm.trans g1
    · rw [hlen] at hj
      rw [dif_pos hj]
      obtain ⟨g1, g2, _⟩ := Classical.choose_spec (hchoose j hj)
      rw [g2 i hi, List.getElem?_eq_getElem (by omega)]
      rfl
    · rw [hlen] at hj
      simp only [List.getElem_map, List.getElem_ofFn] at hi ⊢
      rw [dif_pos hj]
      obtain ⟨g1, g2, g3⟩ := Classical.choose_spec (hchoose j hj)
      have hik : i < (Classical.choose (hchoose j hj)).length := by rw [g3.1]; exact hi
      refine g3.2 i _ _ ?_ (List.getElem?_eq_getElem hi)
      rw [List.getElem?_eq_getElem hik]
      rfl
theorem trod_v8 {n : Nat} {cs : List Value} {y : DataW H × List MemPlace} (h : DataW.trod enc Try.prog W 0 (fun _ => true) true n 5 cs = some y) : ∃ c : UInt8, cs = [v8 c] := by
  obtain ⟨k, rfl, _, hw⟩ := DataW.trod_int Try.underlying5 h
  rw [Lit.wf_int_iff] at hw
  have h0 : IntKind.u8.min = 0 := by decide
  have h1 : IntKind.u8.max = 255 := by decide
  refine ⟨UInt8.ofNat k.toNat, ?_⟩
  unfold v8
  have h2 : (UInt8.ofNat k.toNat).toNat = k.toNat := by rw [UInt8.toNat_ofNat']; omega
  rw [h2, Int.toNat_of_nonneg (by omega)]
theorem open_by {n : Nat} {v : Value} {y : DataW H × List MemPlace} (h : DataW.trod enc Try.prog W 0 (fun _ => true) true n 22 [v] = some y) (hf : W.noneFrozen y.2) :
    ∃ (s : Option Addr) (l : Str) (c : Nat), v = .slice s l.length c ∧ l.length ≤ c ∧ c ≤ maxLen ∧ (l.length ≤ 1048576 → ReadsD (fun _ => True) W v (bytesD l)) ∧ (l.length = 0 ∨ ∃ es sp, y.1 = .slice es sp ∧ es.length = l.length) :=
  open_ls (f := fun c => [DV.val (v8 c)]) Try.underlying22 (by kernel_rfl) (by omega) h hf fun m cs d ps hd _ _ _ => by
    obtain ⟨c, rfl⟩ := trod_v8 hd
    exact ⟨c, .mk (.val _ rfl) .empty⟩
end
end Go.Proofs.Ytmcdmcnbnnfhnaa
