/-
  Chapter 39: the chapter's example.
-/
import Derived.Test.YtahpecbcpgjinaaCr
namespace Go.Proofs.Ytahpecbcpgjinaa
open Go.RowKit

def exC : List Cmd := [(0, 1, 2, [], 3, []), (0, 2, 3, [], 0, []), (0, 3, 3, [], 1, []), (0, 4, 3, [], 2, [])]
def ExMade (w : World) (e : Ending) (w' : World) : Prop := ∃ g b, e = .returned (.tuple #[g, .slice (some ⟨b, 0, none⟩) 4 4]) ∧ Gen w' g 1 6 [0, 1, 2] ∧ ReadsC w' (.slice (some ⟨b, 0, none⟩) 4 4) exC ∧ Below w.heap.size w w'

theorem results_cell_tmp {P : Program} {fn : Func} {a u : Tmp} {t : TypeId} {tmps : Array Value} {b o : Nat} {v v2 : Value} {w : World} (h : fn.results = #[.cell a t, .tmp u]) (ha : tmps.getD a undef = .pointer (some ⟨b, o, none⟩)) (hu : tmps.getD u undef = v2) (hl : (loadVar t ⟨b, o, none⟩).run P w = .ok v w) :
    (results fn tmps).run P w = .ok (.tuple #[v, v2]) w := by
  rw [Array.getD_eq_getD_getElem?] at ha hu
  simp [results, h, ha, hu, asAddr, hl]
theorem reads_litI {w : World} {g : Nat} {t : TypeId} {cs : Array Value} {xs : List Int} (h : Blk w g t cs) (hc : cs = (xs.map vi).toArray) (hm : xs.length ≤ 1000000) : Reads vi w (.slice (some ⟨g, 0, none⟩) xs.length xs.length) xs := by
  refine Reads.at (Nat.le_refl _) (by unfold maxLen; omega) h.lt fun j hj => ?_
  rw [h.cell, hc]
  simp [hj]
theorem exC_reads {w : World} {g : Nat} (h : Blk w g 52 #[.int .i64 0, .int .i64 1, .int .i64 2, .slice none 0 0, .int .i64 3, .slice none 0 0, .int .i64 0, .int .i64 2, .int .i64 3, .slice none 0 0, .int .i64 0, .slice none 0 0, .int .i64 0, .int .i64 3, .int .i64 3, .slice none 0 0, .int .i64 1, .slice none 0 0, .int .i64 0, .int .i64 4, .int .i64 3, .slice none 0 0, .int .i64 2, .slice none 0 0]) : ReadsC w (.slice (some ⟨g, 0, none⟩) 4 4) exC := by
  refine ⟨some ⟨g, 0, none⟩, 4, rfl, Nat.le_refl _, by unfold maxLen; omega, (fun h => by cases h), fun _ => ⟨g, 0, rfl, h.lt, fun j hj => ?_⟩⟩
  have hj' : j < 4 := hj
  have key : ∀ (s k r : Int) (hx : exC[j] = (0, s, k, [], r, [])), (∀ i u, ([.int .i64 0, .int .i64 s, .int .i64 k, .slice none 0 0, .int .i64 r, .slice none 0 0] : List Value)[i]? = some u → w.cell? ⟨g, 0 + j * 6 + i, none⟩ = some u) →
      ∃ cs : List Value, cs.length = 6 ∧ (∀ i u, cs[i]? = some u → w.cell? ⟨g, 0 + j * 6 + i, none⟩ = some u) ∧ CmdE w cs exC[j] := fun s k r hx hc =>
    ⟨_, rfl, hc, .slice none 0 0, .slice none 0 0, by rw [hx]; rfl, by rw [hx]; exact ReadsK.nil _, by rw [hx]; exact Reads.nil _⟩
  have h4 : j = 0 ∨ j = 1 ∨ j = 2 ∨ j = 3 := by omega
  rcases h4 with rfl | rfl | rfl | rfl
  · exact key 1 2 3 rfl fun i u hu => by rw [h.cell]; rcases i with _ | _ | _ | _ | _ | _ | i <;> simp at hu ⊢ <;> exact hu
  · exact key 2 3 0 rfl fun i u hu => by rw [h.cell]; rcases i with _ | _ | _ | _ | _ | _ | i <;> simp at hu ⊢ <;> exact hu
  · exact key 3 3 1 rfl fun i u hu => by rw [h.cell]; rcases i with _ | _ | _ | _ | _ | _ | i <;> simp at hu ⊢ <;> exact hu
  · exact key 4 3 2 rfl fun i u hu => by rw [h.cell]; rcases i with _ | _ | _ | _ | _ | _ | i <;> simp at hu ⊢ <;> exact hu

set_option maxRecDepth 100000 in
set_option maxHeartbeats 4000000 in
theorem example_any (w : World) : Calls Try.prog 36 #[] w (ExMade w) := by
  go_enter Try.func36, Try.ntmps36
  go_wp2
  have b0 := (((Blk.new w 25 #[.int .i64 1, .int .i64 6, .slice (some ⟨w.heap.size + 1, 0, none⟩) 3 3, .int .i64 1, .slice (some ⟨w.heap.size + 1 + 1, 0, none⟩) 1 1, .slice none 0 0]).alloc (.cells #[.int .i64 0, .int .i64 1, .int .i64 2] 3)).alloc (.cells #[.int .i64 0] 3)).alloc (.cells #[.int .i64 1, .int .i64 6, .slice (some ⟨w.heap.size + 1, 0, none⟩) 3 3, .int .i64 1, .slice (some ⟨w.heap.size + 1 + 1, 0, none⟩) 1 1, .slice none 0 0] 25)
  have b0 := b0.alloc (.cells #[.int .i64 0, .int .i64 1, .int .i64 2, .slice none 0 0, .int .i64 3, .slice none 0 0, .int .i64 0, .int .i64 2, .int .i64 3, .slice none 0 0, .int .i64 0, .slice none 0 0, .int .i64 0, .int .i64 3, .int .i64 3, .slice none 0 0, .int .i64 1, .slice none 0 0, .int .i64 0, .int .i64 4, .int .i64 3, .slice none 0 0, .int .i64 2, .slice none 0 0] 52)
  have hB := ((((((Below.refl w.heap.size w).alloc (Nat.le_refl _) (.cells #[.int .i64 1, .int .i64 6, .slice (some ⟨w.heap.size + 1, 0, none⟩) 3 3, .int .i64 1, .slice (some ⟨w.heap.size + 1 + 1, 0, none⟩) 1 1, .slice none 0 0] 25)).alloc (by simp) (.cells #[.int .i64 0, .int .i64 1, .int .i64 2] 3)).alloc (by simp; omega) (.cells #[.int .i64 0] 3)).alloc (by simp; omega) (.cells #[.int .i64 1, .int .i64 6, .slice (some ⟨w.heap.size + 1, 0, none⟩) 3 3, .int .i64 1, .slice (some ⟨w.heap.size + 1 + 1, 0, none⟩) 1 1, .slice none 0 0] 25)).alloc (by simp; omega) (.cells #[.int .i64 0, .int .i64 1, .int .i64 2, .slice none 0 0, .int .i64 3, .slice none 0 0, .int .i64 0, .int .i64 2, .int .i64 3, .slice none 0 0, .int .i64 0, .slice none 0 0, .int .i64 0, .int .i64 3, .int .i64 3, .slice none 0 0, .int .i64 1, .slice none 0 0, .int .i64 0, .int .i64 4, .int .i64 3, .slice none 0 0, .int .i64 2, .slice none 0 0] 52))
  have b1 := ((((Blk.new (w.alloc (.cells #[.int .i64 1, .int .i64 6, .slice (some ⟨w.heap.size + 1, 0, none⟩) 3 3, .int .i64 1, .slice (some ⟨w.heap.size + 1 + 1, 0, none⟩) 1 1, .slice none 0 0] 25)) 3 #[.int .i64 0, .int .i64 1, .int .i64 2]).alloc (.cells #[.int .i64 0] 3)).alloc (.cells #[.int .i64 1, .int .i64 6, .slice (some ⟨w.heap.size + 1, 0, none⟩) 3 3, .int .i64 1, .slice (some ⟨w.heap.size + 1 + 1, 0, none⟩) 1 1, .slice none 0 0] 25)).alloc (.cells #[.int .i64 0, .int .i64 1, .int .i64 2, .slice none 0 0, .int .i64 3, .slice none 0 0, .int .i64 0, .int .i64 2, .int .i64 3, .slice none 0 0, .int .i64 0, .slice none 0 0, .int .i64 0, .int .i64 3, .int .i64 3, .slice none 0 0, .int .i64 1, .slice none 0 0, .int .i64 0, .int .i64 4, .int .i64 3, .slice none 0 0, .int .i64 2, .slice none 0 0] 52))
  have b4 := Blk.new ((((w.alloc (.cells #[.int .i64 1, .int .i64 6, .slice (some ⟨w.heap.size + 1, 0, none⟩) 3 3, .int .i64 1, .slice (some ⟨w.heap.size + 1 + 1, 0, none⟩) 1 1, .slice none 0 0] 25)).alloc (.cells #[.int .i64 0, .int .i64 1, .int .i64 2] 3)).alloc (.cells #[.int .i64 0] 3)).alloc (.cells #[.int .i64 1, .int .i64 6, .slice (some ⟨w.heap.size + 1, 0, none⟩) 3 3, .int .i64 1, .slice (some ⟨w.heap.size + 1 + 1, 0, none⟩) 1 1, .slice none 0 0] 25)) 52 #[.int .i64 0, .int .i64 1, .int .i64 2, .slice none 0 0, .int .i64 3, .slice none 0 0, .int .i64 0, .int .i64 2, .int .i64 3, .slice none 0 0, .int .i64 0, .slice none 0 0, .int .i64 0, .int .i64 3, .int .i64 3, .slice none 0 0, .int .i64 1, .slice none 0 0, .int .i64 0, .int .i64 4, .int .i64 3, .slice none 0 0, .int .i64 2, .slice none 0 0]
  simp only [World.size_alloc] at b1 b4
  refine bodyPost_ret (results_cell_tmp rfl rfl rfl (run_loadVar_mid (P := Try.prog) _ w.heap.size 0 25 _ _ b0.range Try.underlying25 rfl (by kernel_rfl))) rfl ⟨_, _, rfl, ⟨_, _, _, _, rfl, reads_litI (xs := [0, 1, 2]) b1 rfl (by simp), ⟨_, _, _, rfl⟩, ⟨_, _, _, rfl⟩⟩, exC_reads b4, hB⟩
end Go.Proofs.Ytahpecbcpgjinaa
