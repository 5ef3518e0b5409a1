/-
  Chapter 29: Normal.
-/
import Derived.Test.YtfdicndmebhmdaaEh
import Derived.Test.YtfdicndmebhmdaaEi
import Derived.Test.YtfdicndmebhmdaaPb
namespace Go.Proofs.Ytfdicndmebhmdaa
open Go.RowKit

def SmallT (t : List Ev) : Prop := t.length ≤ 100 ∧ ∀ e, e ∈ t → e.2.length ≤ 1000
def NormMade (W : World) (L : List Ev) (e : Ending) (w' : World) : Prop := ∃ v, e = .returned v ∧ OwnE W.heap.size (EvR W.heap.size) W w' v L
theorem EvR.base {B B' : Nat} {w : World} {cs : List Value} {e : Ev} (h : EvR B w cs e) (hb : B' ≤ B) : EvR B' w cs e := by
  obtain ⟨vu, h1, h2⟩ := h; exact ⟨vu, h1, ownsRow_base h2 hb⟩
theorem OwnE.base {B B' C C' : Nat} {w0 wr : World} {v : Value} {L : List Ev} (h : OwnE B (EvR C) w0 wr v L) (hb : B' ≤ B) (hc : C' ≤ C) (hw : w0.heap.size ≤ B') : OwnE B' (EvR C') w0 wr v L := by
  obtain ⟨h1, cells, h2, h3⟩ := h
  refine ⟨⟨hw, Nat.le_trans hb h1.2.1, h1.2.2⟩, cells, ownsRow_base h2 hb, fun k hk => ?_⟩
  obtain ⟨cs, a, b, c⟩ := h3 k hk
  exact ⟨cs, a, b, c.base hc⟩
theorem OwnE.slc {B : Nat} {E : World → List Value → Ev → Prop} {w0 wr : World} {v : Value} {L : List Ev} (h : OwnE B E w0 wr v L) : ∃ a c, v = .slice a L.length c := by
  obtain ⟨_, cells, h2, _⟩ := h
  exact row_slc h2
/-- What the loop of Normal has done after k events. -/
structure NrmS (W w1 wr : World) (gs gw gn gu : Nat) (tv : Value) (t : List Ev) (k : Nat) (us : Nat → Bool) (v : Value) (L : List Ev) : Prop where
  sr : Srch W.heap.size w1.heap.size wr gs gw gn gu tv t us
  rem : (remL t us).length = t.length - k
  own : OwnE w1.heap.size (EvR w1.heap.size) W wr v L
  eq : L ++ (normGo t (t.length - k) us).map (nthE t) = normE t
  len : L.length = k
theorem NrmS.step {W w1 wr : World} {gs gw gn gu : Nat} {tv : Value} {t : List Ev} {k : Nat} {us : Nat → Bool} {v : Value} {L : List Ev} (h : NrmS W w1 wr gs gw gn gu tv t k us v L) (hk : k < t.length) :
    ∃ i r, rdyS t us = i :: r ∧ i < t.length ∧ us i = false ∧ (remL t (setU us i true)).length = t.length - (k + 1) ∧ (L ++ [nthE t i]) ++ (normGo t (t.length - (k + 1)) (setU us i true)).map (nthE t) = normE t := by
  cases hr : rdyS t us with
  | nil =>
    exfalso
    have h1 := h.rem
    obtain ⟨i, hi⟩ := List.exists_mem_of_length_pos (l := remL t us) (by omega)
    exact rdy_some ⟨i, mem_remL.1 hi⟩ hr
  | cons i r =>
    have hi : i ∈ rdyS t us := by rw [hr]; exact List.mem_cons_self ..
    have h2 := mem_rdyS.1 hi
    refine ⟨i, r, rfl, h2.1, (rdyB_iff.1 h2.2).1, remL_len_set hi (by have := h.rem; omega), ?_⟩
    have h3 := h.eq
    rw [show t.length - k = (t.length - (k + 1)) + 1 by omega] at h3
    unfold normGo at h3
    rw [hr] at h3
    simp only [List.headD_cons, List.map_cons] at h3
    rw [List.append_assoc]; exact h3

set_option maxRecDepth 100000 in
set_option maxHeartbeats 4000000 in
theorem normal_any (tv : Value) (t : List Ev) (W : World) (hr : ReadsE W tv t) (hs : SmallT t) : Calls Try.prog 17 #[tv] W (NormMade W (normE t)) := by
  have HR := Lib.hid hr
  have HS := Lib.hid hs
  have hn := hs.1
  have HNEW := Lib.hid (new_any tv t W hr (by omega))
  obtain ⟨ao, cap, rfl, hl, hm, -, -⟩ := hr
  unfold maxLen at hm
  clear hs
  go_enter Try.func17, Try.ntmps17
  go_wp2_with fail
  refine HNEW.out.mono ?_
  rintro e w1 ⟨gs, gw, gn, gu, rfl, hgw, hgu, hsr, hb1⟩
  have HG := Lib.hid (And.intro hgw hgu)
  have HLT := Lib.hid hsr.lt
  have HB1 := Lib.hid hb1
  have H0 : Hid (NrmS W w1 w1 gs gw gn gu (.slice ao t.length cap) t 0 noU (.slice none 0 0) []) := Lib.hid ⟨hsr, by rw [remL_no]; rfl, OwnE.nil _ hb1.size (Nat.le_refl _) hb1, rfl, rfl⟩
  clear hgw hgu hsr hb1 HNEW
  go_wp2
  go_loopg [4, 5, 10] t.length (fun m o _ idx wr => ∃ (k : Nat) (us : Nat → Bool) (L : List Ev), m + k = t.length ∧ idx = .int .i64 k ∧ NrmS W w1 wr gs gw gn gu (.slice ao t.length cap) t k us o L)
  case atStart => exact ⟨0, _, _, by omega, rfl, H0.out⟩
  case round =>
    clear H0
    obtain ⟨k, us, L, hmk, rfl, hst⟩ := hrel
    have HM := Lib.hid hmk
    have HST := Lib.hid hst
    have hk : k ≤ t.length := by omega
    clear hmk
    by_cases hlt : k < t.length
    · have hki : (k : Int) < t.length := by omega
      have hk0 : (0 : Int) ≤ (k : Int) := by omega
      have HK := Lib.hid (And.intro hlt trivial)
      obtain ⟨i, r, hri, hi, hu, hrem, heq⟩ := hst.step hlt
      have HI := Lib.hid (And.intro hri (And.intro hi (And.intro hu (And.intro hrem heq))))
      obtain ⟨oa, oc, rfl⟩ := hst.own.slc
      have HRDY := Lib.hid (ready_any W.heap.size w1.heap.size gs gw gn gu _ t us W wr hst.sr HR.out hst.own.1.2.2 (by omega))
      clear hst hrem heq hu hri hlt
      go_wp2_with fail
      refine HRDY.out.mono ?_
      rintro e w2 ⟨v, rfl, hrd, -, hb2⟩
      rw [HI.out.1] at hrd
      obtain ⟨ao2, cap2, rfl, hl2, hm2, hn2, hx2⟩ := hrd
      obtain ⟨b2, off2, rfl, hlt2, hc2⟩ := hx2 (by simp)
      have c0 : w2.cell? ⟨b2, off2, none⟩ = some (.int .i64 (i : Int)) := by have := hc2 0 (by simp); simpa [nv] using this
      have HST2 := Lib.hid (And.intro (HST.out.sr.on hb2) (HST.out.own.later (stableR _ _) hb2))
      have hrl : (0 : Int) < ((r.length + 1 : Nat) : Int) := by omega
      clear hn2 hx2 hc2 hb2 HRDY hm2
      simp only [List.length_cons] at hl2 ⊢
      have HPL := Lib.hid (place_any W.heap.size w1.heap.size gs gw gn gu i true _ t us w2 HST2.out.1 hi HI.out.2.2.1 (by omega))
      go_wp2_with fail
      refine HPL.out.mono ?_
      rintro e w3 ⟨rfl, hsr3, hk3⟩
      have HSR3 := Lib.hid hsr3
      have HOW3 := Lib.hid (HST2.out.2.kept hk3 HG.out.1 HG.out.2 HLT.out.2.1 HLT.out.2.2.2 HLT.out.2.1 HLT.out.2.2.2)
      clear hsr3 hk3 HPL HST2 c0
      obtain ⟨b, off, cap1, s1, c1, hv, hcell, r1⟩ := HR.out.at2 hi
      injection hv with e1 e2 e3
      subst e1
      have hii : (i : Int) < t.length := by omega
      have hi0 : (0 : Int) ≤ (i : Int) := by omega
      have dd := hcell w3 HOW3.out.1.2.2
      have d0 := dd.1
      have d1 := dd.2
      have HNE := Lib.hid (nthE_eq hi)
      have HLE := Lib.hid (HS.out.2 _ (List.getElem_mem hi))
      have HE := Lib.hid r1
      clear e2 e3 hcell dd r1
      generalize t[i] = x at *
      have HFR := Lib.hid (fresh_any _ x w3 ⟨_, rfl, HE.out.keep HOW3.out.1.2.2⟩ HLE.out)
      unfold evV at HFR
      go_wp2_with fail
      refine HFR.out.mono ?_
      rintro e w4 ⟨v4, rfl, hrow4, hb4⟩
      obtain ⟨vu, rfl, hu4⟩ := hrow4
      have HV4 := Lib.hid hu4
      have HOW4 := Lib.hid (And.intro (HSR3.out.on hb4) (HOW3.out.later (stableR _ _) hb4))
      obtain ⟨a4, k4, rfl⟩ := row_slc hu4
      clear hu4 hb4 HFR d0 d1
      unfold evV
      go_wp2_with (at_builtin; refine append_ev (B := w1.heap.size) (E := EvR w1.heap.size) (w0 := W) (stableR _ _) rfl _ _ rfl (.slice oa L.length oc) L x [.int .i64 x.1, .slice a4 x.2.length k4] w4.heap.size rfl (HOW4.out.2.later (stableR _ _) ((Below.refl _ _).alloc (Nat.le_refl _) _)) rfl (Blk.new _ _ _) ⟨_, rfl, (ownsRow_base HV4.out HOW3.out.1.2.1).alloc _⟩ (by have := HST.out.len; omega) ?_)
      intro v' w' h1 hg1
      have HX : Hid (NrmS W w1 w' gs gw gn gu (.slice (some ⟨b, off, none⟩) t.length cap) t (k + 1) (setU us i true) v' (L ++ [x])) := Lib.hid (by
        have hA : Below w4.heap.size w4 (w4.alloc (.cells #[.int .i64 x.1, .slice a4 x.2.length k4] 29)) := (Below.refl _ _).alloc (Nat.le_refl _) _
        exact ⟨(HOW4.out.1.on hA).kept hg1 fun b _ hb => by omega, HI.out.2.2.2.1, h1, by rw [← HNE.out]; exact HI.out.2.2.2.2, by rw [List.length_append, HST.out.len]; rfl⟩)
      clear h1 hg1
      go_wp2
      go_roundg (t.length - (k + 1))
      case measure => have := HM.out; omega
      case rel => exact ⟨k + 1, _, _, by have := HM.out; have := HK.out.1; omega, by go_num, HX.out⟩
    · have e : k = t.length := by omega
      subst e
      have h1 := HST.out.eq
      rw [Nat.sub_self] at h1
      have HEQ : Hid (L = normE t) := Lib.hid (by rw [← h1]; simp [normGo])
      clear h1
      go_wp2
      go_ret
      exact ⟨_, rfl, by rw [← HEQ.out]; exact HST.out.own.base HB1.out.size HB1.out.size (Nat.le_refl _)⟩
end Go.Proofs.Ytfdicndmebhmdaa
