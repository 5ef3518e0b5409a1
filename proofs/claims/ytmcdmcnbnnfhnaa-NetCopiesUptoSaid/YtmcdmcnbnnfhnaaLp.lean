/-
  From a walk to a law's row: an argument that came in reads behind the call as before; arguments opened as plain data.
-/
import Derived.Test.YtmcdmcnbnnfhnaaLb
import Derived.ProofKit
import Derived.OpenShut
import Derived.ShutString
import Derived.Carry
namespace Go.Proofs.Ytmcdmcnbnnfhnaa
open Go.ChangeShapes Go.WideShapes Go.ChangeAt Go.RowKit
open Go.ChangeMaps (open_string shut_string)

theorem own : ownKnob Try.prog.godebug = none := by kernel_rfl
theorem laidOut : laidOutB Try.prog = true := by kernel_rfl

section
variable {H : Type} {enc : TypeId × Value → H} {P : Program}
theorem trodAll_below {W W' : World} (hl : laidOutB P = true) (hb : Below W.heap.size W W') :
    ∀ (ts : List TypeId) (vals : List Value) (ds : List (DataW H)) (ps : List MemPlace), (∀ t ∈ ts, P.readableRec t = true ∧ t < P.types.size) →
      DataW.TrodAll enc P W 0 (fun _ => true) true ts vals ds ps → (∀ x ∈ ps, x.block < W.heap.size) → DataW.TrodAll enc P W' 0 (fun b => decide (b < W.heap.size)) true ts vals ds ps
  | [], vals, ds, ps, _, h, _ => by obtain ⟨rfl, rfl, rfl⟩ := trodAll_nil h; exact trodAll_mk0
  | t :: ts, vals, ds, ps, hr, h, hlt => by
    obtain ⟨v, vals', d, ds', p, q, rfl, rfl, rfl, h1, h2⟩ := trodAll_cons h
    exact trodAll_cons_mk (Below.trod hl (hr t (by simp)).1 (hr t (by simp)).2 h1 hb (fun x hx => hlt x (by simp [hx]))) (trodAll_below hl hb ts vals' ds' q (fun t ht => hr t (by simp [ht])) h2 (fun x hx => hlt x (by simp [hx])))

theorem law_post {f : Func} {s : ChangeSpec} {W W' : World} {args : Array Value} {ds : List (DataW H)} {before : List MemPlace} {tb : TypeId} (hl : laidOutB P = true) (hvars : s.vars = [])
    (hfn : ∀ n, ds.length = n → s.fn H (ds ++ []) = { results := [.lit (.bool true)], args := ds }) (hrt : f.resultTypes = #[tb]) (hbool : P.underlying tb = some .bool) (hok : ∀ t ∈ f.params.toList, P.readableRec t = true ∧ t < P.types.size)
    (hW : DataW.Whole enc P f.params.toList s.vars false W args.toList ds [] before) (hbel : Below W.heap.size W W') : s.post enc P f false true false false W args (.bool true) W' := by
  have hW' := hW
  obtain ⟨p, q, hA, hV, rfl, hfz, hnd⟩ := hW
  rw [hvars] at hV
  obtain ⟨_, rfl⟩ := trodVars_none hV
  have hlt : ∀ x ∈ p, x.block < W.heap.size := fun x hx => hW'.lt x (by simp [hx])
  refine ⟨ds, [], _, [], p, [], hW', ?_, ?_, ?_, hbel.frame _, fun h => by cases h⟩
  · rw [hfn _ rfl, hrt]
    exact trodAll_mk1 (shut_bool hbool _)
  · rw [hfn _ rfl]
    exact trodAll_below hl hbel _ _ _ _ hok hA hlt
  · rw [hvars, hfn _ rfl]
    rfl
end

set_option maxRecDepth 100000 in
/-- A []string that came in. -/
theorem open_reads {H : Type} {enc : TypeId × Value → H} {W : World} {base : Nat} {v : Value} {d : DataW H} {p : List MemPlace} (hok : Value.okWide Try.prog W .any base 36 v) (h : DataW.Trod enc Try.prog W 0 (fun _ => true) true 36 v d p) :
    ∃ xs : List Str, Reads vs W v xs ∧ ∀ x ∈ xs, x.length ≤ maxLen := by
  obtain ⟨a0, len, cap, rfl⟩ := okWide_slice Try.underlying36 hok
  obtain ⟨fuel, hf⟩ := h
  rcases open_strings Try.underlying36 Try.underlying9 (by kernel_rfl) hf with ⟨hcs, hx⟩ | ⟨a, len', cap', ss, hcs, _, hl, hm, hz, hx, hcell, hsz⟩
  · simp only [Value.cells] at hcs
    simp at hcs
    obtain ⟨rfl, rfl, rfl⟩ := hcs
    exact ⟨[], Reads.nil W, by simp⟩
  · simp only [Value.cells] at hcs
    simp at hcs
    obtain ⟨rfl, rfl, rfl⟩ := hcs
    simp only [if_true] at hz
    have hin : 0 < len → a.spot = none ∧ a.block < W.heap.size := by
      intro h0
      have h1 := hcell 0 (by omega)
      have h2 : Addr.add a 0 = a := by simp [Addr.add]
      rw [h2] at h1
      refine ⟨?_, World.block_lt_of_cell? W a h1⟩
      unfold World.cell? at h1
      split at h1
      · by_cases hs : a.spot.isSome = true
        · simp [hs] at h1
        · simpa using hs
      · cases h1
    refine ⟨_, reads_of_open hl hm (by omega) (fun h => (hin h).1) (fun h => (hin h).2) hcell, ?_⟩
    intro x hx
    simp only [List.mem_map] at hx
    obtain ⟨s, hs, rfl⟩ := hx
    exact hsz s (List.mem_of_mem_take hs)
end Go.Proofs.Ytmcdmcnbnnfhnaa
