/-
  Chapter 56: All of the reference.
-/
import Derived.Test.YtgaolgfjbgflgaaLq
namespace Go.Proofs.Ytgaolgfjbgflgaa
open Go.RowKit

def AllMade (w : World) (LL : List (List Nat)) (e : Ending) (w' : World) : Prop := ∃ v', e = .returned v' ∧ OwnL w w' v' LL
set_option maxRecDepth 100000 in
set_option maxHeartbeats 8000000 in
theorem rall_any (v : Value) (h : List Opn) (W : World) (hr : ReadsO W v h) (hs : SmallH h) (hn : h.length ≤ 20) (hlen : (allL h).length ≤ 1000000) : Calls Try.prog 16 #[v] W (AllMade W (allL h)) := by
  have HR := Lib.hid hr
  obtain ⟨ao, cap, rfl, hl, hm, -, -⟩ := hr
  unfold maxLen at hm
  have HB1 : Hid (Below W.heap.size W (W.alloc (.cells #[] 3))) := Lib.hid ((Below.refl _ _).alloc (Nat.le_refl _) _)
  have HB2 : Hid (Below W.heap.size W ((W.alloc (.cells #[] 3)).alloc (.cells #[] 25))) := Lib.hid (HB1.out.alloc (by simp) _)
  have HO1 : Hid (RowI (W.alloc (.cells #[] 3)) (.slice (some ⟨W.heap.size, 0, none⟩) 0 0) []) := Lib.hid (World.ownsRow_made W #[] 0 (Nat.zero_le _) (Nat.zero_le _) rfl)
  have HO2 : Hid (OwnL W ((W.alloc (.cells #[] 3)).alloc (.cells #[] 25)) (.slice (some ⟨W.heap.size + 1, 0, none⟩) 0 0) []) := Lib.hid ⟨HB2.out, [], by
    have h1 := World.ownsRow_made (base := W.heap.size) (e := 25) (size := 1) (W.alloc (.cells #[] 3)) #[] 0 HB1.out.size (Nat.zero_le _) rfl
    rw [World.size_alloc] at h1
    exact h1, fun k hk => by cases hk⟩
  have HFR := Lib.hid (rfrom_any W (.slice ao h.length cap) h HR.out hs (h.length + 1) [] [] (.slice (some ⟨W.heap.size, 0, none⟩) 0 0) (.slice (some ⟨W.heap.size + 1, 0, none⟩) 0 0) _ (by have := freeK_le (maskL []) h.length; omega) (fun z hz => by cases hz) (by simp; omega) HO2.out (HO1.out.kept (KeepI.of ((Below.refl _ _).alloc (Nat.le_refl _) _))) (by simpa [allL] using hlen))
  clear hs hlen
  go_enter Try.func16, Try.ntmps16
  go_wp2_with fail
  refine HFR.out.mono ?_
  rintro e w1 ⟨v1, rfl, ho, -, -⟩
  have HOW := Lib.hid ho
  clear ho HFR
  go_wp2
  go_ret
  exact ⟨_, rfl, HOW.out⟩
theorem OwnL.length {w0 w : World} {v : Value} {LL : List (List Nat)} (h : OwnL w0 w v LL) : ∃ a k, v = .slice a LL.length k := by
  obtain ⟨-, cells, h2, -⟩ := h
  exact row_slc h2
end Go.Proofs.Ytgaolgfjbgflgaa
