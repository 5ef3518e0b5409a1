/-
  Chapter 29: All.
-/
import Derived.Test.YtfdicndmebhmdaaFi
namespace Go.Proofs.Ytfdicndmebhmdaa
open Go.RowKit

def allE (t : List Ev) (lim : Int) : List (List Ev) := if lim ≤ 0 then [] else (linsE t).take lim.toNat
def AllMade (W : World) (LL : List (List Ev)) (e : Ending) (w' : World) : Prop := ∃ v F B, e = .returned v ∧ RowsF F B w' v LL ∧ Below W.heap.size W w'
set_option maxRecDepth 100000 in
set_option maxHeartbeats 2000000 in
theorem all_any (tv : Value) (t : List Ev) (lim : Int) (W : World) (hr : ReadsE W tv t) (hsm : SmallT t) (hl : lim ≤ 100000) : Calls Try.prog 25 #[tv, .int .i64 lim] W (AllMade W (allE t lim)) := by
  have HR := Lib.hid hr
  have HS := Lib.hid hsm
  obtain ⟨ta, tn, tk, rfl⟩ := Slc.of_readsK hr
  clear hr hsm
  have KW0 := Lib.hid ((below_two W (.cells #[.slice ta tn tk] 22) (.cells #[.int .i64 lim] 3)).alloc (by simp; omega) (.cells #[.slice none 0 0] 38))
  by_cases h0 : lim ≤ 0
  · have HE : Hid (allE t lim = []) := Lib.hid (if_pos h0)
    rw [HE.out]
    go_enter Try.func25, Try.ntmps25
    go_wp2
    go_ret
    exact ⟨_, fun _ => False, 0, rfl, ⟨[], World.ownsRow_nil _ _ _ _, fun k h => by simp at h⟩, KW0.out⟩
  · obtain ⟨n, hn⟩ : ∃ n : Nat, lim = (n : Int) := ⟨lim.toNat, by omega⟩
    subst hn
    have HE : Hid (allE t (n : Int) = (linsE t).take n) := Lib.hid (if_neg h0)
    rw [HE.out]
    have hn0 : 0 < n := by omega
    have HB : Hid (Blk (((W.alloc (.cells #[.slice ta tn tk] 22)).alloc (.cells #[.int .i64 (n : Int)] 3)).alloc (.cells #[.slice none 0 0] 38)) W.heap.size 22 #[.slice ta tn tk] ∧ Blk (((W.alloc (.cells #[.slice ta tn tk] 22)).alloc (.cells #[.int .i64 (n : Int)] 3)).alloc (.cells #[.slice none 0 0] 38)) (W.heap.size + 1) 3 #[.int .i64 (n : Int)] ∧
        Blk (((W.alloc (.cells #[.slice ta tn tk] 22)).alloc (.cells #[.int .i64 (n : Int)] 3)).alloc (.cells #[.slice none 0 0] 38)) (W.heap.size + 1 + 1) 38 #[.slice none 0 0]) := Lib.hid (by
      refine ⟨((Blk.new W _ _).alloc _).alloc _, ?_, ?_⟩
      · have h0 := (Blk.new (W.alloc (.cells #[.slice ta tn tk] 22)) 3 #[.int .i64 (n : Int)]).alloc (.cells #[.slice none 0 0] 38)
        rwa [World.size_alloc] at h0
      · have h0 := Blk.new ((W.alloc (.cells #[.slice ta tn tk] 22)).alloc (.cells #[.int .i64 (n : Int)] 3)) 38 #[.slice none 0 0]
        rwa [World.size_alloc, World.size_alloc] at h0)
    go_enter Try.func25, Try.ntmps25
    go_upto_region 2 with fail
    generalize hw1 : World.alloc (World.alloc (World.alloc W _) _) _ = w1 at *
    have HZ : Hid (w1.heap.size = W.heap.size + 3) := Lib.hid (by rw [← hw1]; simp)
    clear hw1
    have q0 : w1.cell? ⟨W.heap.size + 1, 0, none⟩ = some (.int .i64 (n : Int)) := HB.out.2.1.cell 0
    have q1 : w1.cell? ⟨W.heap.size, 0, none⟩ = some (.slice ta tn tk) := HB.out.1.cell 0
    have HEACH := Lib.hid (eachAll_any W w1 (.slice ta tn tk) t n hn0 (AllV W.heap.size (W.heap.size + 1 + 1) (W.heap.size + 1) n w1.heap.size (.slice ta tn tk) t) (fun b => b = W.heap.size + 1 + 1) W.heap.size (W.heap.size + 1 + 1) (W.heap.size + 1) HR.out KW0.out (by have := HS.out.1; omega) (fun b hb => by have := HZ.out; omega)
      (fun seen F w2 w3 S h hk hs => h.keep hk hs)
      (fun seen F w2 ov o h1 h2 h3 h4 h5 h6 => allvis_any W.heap.size (W.heap.size + 1 + 1) (W.heap.size + 1) n w1.heap.size (.slice ta tn tk) t W HR.out HS.out (by omega) seen F w2 ov o h1 h2 h3 h4 h5 h6)
      ⟨HB.out.1, HB.out.2.1, ⟨_, HB.out.2.2, ⟨[], World.ownsRow_nil _ _ _ _, fun k h => by simp at h⟩, fun b hb => by cases hb⟩, rfl, fun b hb => ⟨.inl hb, by have := HZ.out; omega⟩, by omega, by omega, by have := HZ.out; omega, Nat.le_refl _⟩)
    go_wp2_with fail
    refine HEACH.out.mono ?_
    rintro e w2 ⟨rfl, F', hv, hk, hf⟩
    obtain ⟨v, hbo, hrows, hvF⟩ := hv.bo
    have hmt : ((linsI t).take n).map (fun o => o.map (nthE t)) = (linsE t).take n := by unfold linsE; rw [List.map_take]
    rw [hmt] at hrows
    have HX := Lib.hid (And.intro hrows (KW0.out.trans (hk.below (B := W.heap.size) KW0.out.size fun k h1 h2 => by omega)))
    have q2 : w2.cell? ⟨W.heap.size + 1 + 1, 0, none⟩ = some v := hbo.cell 0
    obtain ⟨va, vc, rfl⟩ : ∃ a c, v = .slice a ((linsE t).take n).length c := by obtain ⟨us, a1, _⟩ := hrows; exact row_slc a1
    clear hv hk hf HEACH q1 q0 hbo hrows hvF hmt
    generalize hl : (linsE t).take n = LL at *
    have HLL := Lib.hid hl
    clear hl
    go_wp2
    go_ret
    exact ⟨_, F', _, rfl, HX.out.1, HX.out.2⟩
end Go.Proofs.Ytfdicndmebhmdaa
