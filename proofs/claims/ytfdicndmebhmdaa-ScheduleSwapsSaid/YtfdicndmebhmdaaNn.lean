/-
  Chapter 29: the reference: Normal.
-/
import Derived.Test.YtfdicndmebhmdaaNw
import Derived.Test.YtfdicndmebhmdaaNc
namespace Go.Proofs.Ytfdicndmebhmdaa
open Go.RowKit

theorem rdy_free {t : List Ev} {i : Nat} (h : i ∈ rdyS t noU) : ∀ x, x ∈ t.take i → depE x (nthE t i) = false := by
  intro x hx
  obtain ⟨j, hj, rfl⟩ := List.mem_iff_getElem.1 hx
  rw [List.length_take] at hj
  rw [List.getElem_take]
  have h1 := (rdyB_iff.1 (mem_rdyS.1 h).2).2 j (by omega) rfl
  unfold depI at h1
  rwa [nthE_eq (show j < t.length by omega)] at h1
theorem rdy_erase {t : List Ev} {i : Nat} (h : i ∈ rdyS t noU) : t.erase (nthE t i) = t.eraseIdx i := by
  have hi := (mem_rdyS.1 h).1
  exact first_erase hi (rdy_free h) (nthE_eq hi).symm
theorem norm_step {t : List Ev} {n i : Nat} {tl : List Nat} (h : rdyS t noU = i :: tl) : normV (n + 1) t = nthE t i :: normV n (t.eraseIdx i) := by
  have hm : mfr t = nthE t i :: tl.map (nthE t) := by unfold mfr; rw [h]; rfl
  show (match mfr t with | [] => [] | e :: _ => e :: normV n (t.erase e)) = _
  rw [hm, ← rdy_erase (by rw [h]; exact List.mem_cons_self ..)]
theorem rdy_head {t : List Ev} (h : 0 < t.length) : ∃ i tl, rdyS t noU = i :: tl ∧ i < t.length := by
  cases hr : rdyS t noU with
  | nil => exact absurd (by unfold mfr; rw [hr]; rfl) (mfr_some (t := t) (by intro e; subst e; simp at h))
  | cons i tl => exact ⟨i, tl, rfl, (mem_rdyS.1 (by rw [hr]; exact List.mem_cons_self ..)).1⟩
theorem ReadsW.at2 {W1 w : World} {v : Value} {t : List Ev} (h : ReadsW W1 w v t) {k : Nat} (hk : k < t.length) : ∃ b off cap s1 c1, v = .slice (some ⟨b, off, none⟩) t.length cap ∧
    (∀ wq, Below w.heap.size w wq → wq.cell? ⟨b, off + k * 2, none⟩ = some (.int .i64 t[k].1) ∧ wq.cell? ⟨b, off + k * 2 + 1, none⟩ = some (.slice s1 t[k].2.length c1)) ∧ Reads vi W1 (.slice s1 t[k].2.length c1) t[k].2 := by
  obtain ⟨ao, cap, rfl, h1, h2, h3, h4⟩ := h
  obtain ⟨b, off, rfl, hb, hc⟩ := h4 (by rintro rfl; simp at hk)
  obtain ⟨cs, h5, h6, vu, rfl, r1⟩ := hc k hk
  obtain ⟨s1, c1, rfl, r2⟩ := r1
  exact ⟨b, off, cap, s1, c1, rfl, fun wq hq => ⟨(hq.cell (p := ⟨b, off + k * 2, none⟩) hb).trans (by simpa using h6 0 _ rfl), (hq.cell (p := ⟨b, off + k * 2 + 1, none⟩) hb).trans (h6 1 _ rfl)⟩, s1, c1, rfl, r2⟩
theorem ReadsW.grown {W1 w w' : World} {v : Value} {t : List Ev} {row : Option Nat} (h : ReadsW W1 w v t) (hg : w.grownBy w' row) (hne : ∀ b, v.ownBlock = some b → row ≠ some b) : ReadsW W1 w' v t := by
  obtain ⟨ao, cap, rfl, h1, h2, h3, h4⟩ := h
  refine ⟨ao, cap, rfl, h1, h2, h3, fun he => ?_⟩
  obtain ⟨b, off, rfl, hb, hc⟩ := h4 he
  have hk := hg.block b hb fun e => hne b rfl e.symm
  refine ⟨b, off, rfl, Nat.lt_of_lt_of_le hb hg.size, fun j hj => ?_⟩
  obtain ⟨cs, g1, g2, g3⟩ := hc j hj
  exact ⟨cs, g1, fun i u hu => (World.cell?_of_block (w := w) (a := ⟨b, off + j * 2 + i, none⟩) hk).trans (g2 i u hu), g3⟩
/-- append of one event: the row alone grows. -/
theorem append_evg {B : Nat} {E : World → List Value → Ev → Prop} {ops : Array Oper} {rest : List Oper} {o : Oper} {a : Act} {w w0 : World} {Q : Exit → Act → World → Prop} (hE : StableE B E) (hgd : o.guard = none) (s x : Operand)
    (ho : o.op = .call { callee := .builtin .append, args := #[s, x], argTypes := #[22, 22] })
    (v : Value) (L : List Ev) (y : Ev) (cs : List Value) (g : Nat) (hs : a.eval s = v) (hown : OwnE B E w0 w v L) (hx : a.eval x = .slice (some ⟨g, 0, none⟩) 1 1) (hB : Blk w g 29 cs.toArray) (he : E w cs y) (hlen : L.length ≤ 100000)
    (h : ∀ v' w', OwnE B E w0 w' v' (L ++ [y]) → w.grownBy w' v.ownBlock → wpList Try.prog ops Q rest (a.put o.dst v') w') : wpList Try.prog ops Q (o :: rest) a w := by
  obtain ⟨i0, hinf, hz0, hz1, hz2⟩ := info_parts Try.infoEv
  obtain ⟨hb, cells, hrow, hc⟩ := hown
  obtain ⟨hl2, hone⟩ := hE.one _ _ _ he
  refine wpList_append_own w hgd s x 22 ho B 29 i0 _ 2 32 Try.underlying22 hinf hz0 hz1 hz2 rfl (by decide) v L.length cells hs hrow ⟨g, 0, none⟩ 1 1 cs hx (by omega) ?_ hone (by unfold maxLen; omega) (by omega) hb.2.1 ?_
  · intro j u hu
    have h1 := hB.cell j
    have h2 : (cs.toArray)[j]? = some u := by simpa using hu
    rw [← h2, ← h1]
    by_cases h0 : j = 0 <;> simp [Addr.add, h0]
  · intro v' w' h1 h2 _
    have hk : Kept (fun k => B ≤ k) w w' := Kept.ofG h2 fun k hk => (hrow.lt k hk.symm).1
    refine h v' w' ⟨⟨hb.1, Nat.le_trans hb.2.1 h2.size, hb.2.2.trans (hk.below hb.2.2.size fun k hk => by have := hb.1; omega)⟩, cells ++ cs, by rw [List.length_append]; exact h1, fun k hk => ?_⟩ h2
    have hcl : cells.length = L.length * 2 := hrow.1
    by_cases hlt : k < L.length
    · obtain ⟨ds, h5, h6, h7⟩ := hc k hlt
      refine ⟨ds, h5, fun i hi => ?_, by rw [List.getElem_append_left hlt]; exact hE.grown _ _ _ _ _ _ _ hrow h2 h7⟩
      rw [List.getElem?_append_left (by omega)]
      exact h6 i hi
    · have hk' : k = L.length := by simp at hk; omega
      subst hk'
      refine ⟨cs, hl2, fun i hi => ?_, by rw [List.getElem_append_right (Nat.le_refl _)]; simpa using hE.grown _ _ _ _ _ _ _ hrow h2 he⟩
      rw [List.getElem?_append_right (by omega), hcl, show L.length * 2 + i - L.length * 2 = i by omega]
set_option maxRecDepth 100000 in
set_option maxHeartbeats 4000000 in
theorem rnormal_any (tv : Value) (t : List Ev) (W : World) (hr : ReadsE W tv t) (hn : t.length ≤ 1000) : Calls Try.prog 18 #[tv] W (fun e w' => ∃ v, e = .returned v ∧ OwnE W.heap.size (EvW W) W w' v (normE t)) := by
  have HR := Lib.hid hr
  have HN := Lib.hid hn
  have HST : Hid (t ≠ [] → ∀ b, tv.ownBlock = some b → b < W.heap.size) := Lib.hid (by
    intro h0 b hb
    obtain ⟨ao, cap, rfl, -, -, -, h4⟩ := hr
    obtain ⟨b', off, rfl, h5, -⟩ := h4 h0
    injection hb with hb
    subst hb; exact h5)
  go_enter Try.func18, Try.ntmps18
  have hrc := hr
  obtain ⟨ao, cap, rfl, hl, hm, -, -⟩ := hr
  unfold maxLen at hm
  go_wp2
  go_loopg [3, 4, 5] t.length (fun m o r _ wr => ∃ (rest L : List Ev), rest.length = m ∧ normE t = L ++ normV rest.length rest ∧ L.length + rest.length = t.length ∧ OwnE W.heap.size (EvW W) W wr o L ∧ ReadsW W wr r rest ∧ (rest ≠ [] → ∀ b, r.ownBlock = some b → o.ownBlock ≠ some b))
  case atStart =>
    refine ⟨t, [], rfl, by rw [normE_eq]; rfl, by simp, OwnE.made _ (Nat.le_refl _) (Nat.le_refl _) (Below.refl _ _), ReadsW.on hrc ((Below.refl _ _).alloc (Nat.le_refl _) _), fun h0 b hb e => ?_⟩
    have h1 := HST.out h0 b hb
    injection e with e
    have e2 : W.heap.size = b := e
    omega
  case round =>
    rename World => w1
    obtain ⟨rest, L, rfl, hnm, hlen, hO, hRs, hne⟩ := hrel
    have HO := Lib.hid hO
    have HRS := Lib.hid hRs
    have HNE := Lib.hid hne
    have HNM := Lib.hid hnm
    have HLN := Lib.hid hlen
    have KW := Lib.hid hO.1.2.2
    obtain ⟨oa, oc, rfl⟩ := hO.slc
    obtain ⟨ra, rc, rfl, hl2, hm2, -, -⟩ := id hRs
    unfold maxLen at hm2
    clear hnm hlen hO hRs hne
    by_cases h0 : 0 < rest.length
    · have h0i : (0 : Int) < rest.length := by omega
      obtain ⟨i, tl, hrd, hi⟩ := rdy_head h0
      have HSTEP : Hid (∀ n, normV (n + 1) rest = nthE rest i :: normV n (rest.eraseIdx i)) := Lib.hid fun n => norm_step hrd
      go_wp2_with fail
      refine (least_any _ rest _ (HRS.out.toE KW.out) (by have := HLN.out; have := HN.out; omega)).mono ?_
      rintro e w2 ⟨vl, rfl, hls, hb⟩
      rw [hrd] at hls
      obtain ⟨la, lc, rfl⟩ := row_slc hls
      obtain ⟨lg, rfl, hlg, hlc⟩ := row_at hls (by simp)
      have c0 : w2.cell? ⟨lg, 0, none⟩ = some (.int .i64 (i : Int)) := hlc w2 (Below.refl _ _) 0 _ rfl
      have hpos : (0 : Int) < ((i :: tl).length : Int) := by simp
      obtain ⟨b, off, cap1, s1, c1, hv, hcell, r1⟩ := (HRS.out.on hb).at2 hi
      injection hv with e1 e2 e3
      subst e1
      have hii : (i : Int) < rest.length := by omega
      have hi0 : (0 : Int) ≤ (i : Int) := by omega
      obtain ⟨d0, d1⟩ := hcell w2 (Below.refl _ _)
      have HX := Lib.hid r1
      have HI := Lib.hid (And.intro hi (nthE_eq hi))
      have HO2 := Lib.hid (HO.out.later (stableW _ W) hb)
      have HRS2 := Lib.hid (HRS.out.on hb)
      have HER := Lib.hid (show (rest.eraseIdx i).length + 1 = rest.length by rw [List.length_eraseIdx, if_pos hi]; omega)
      have HLT : Hid (∀ q, Value.ownBlock (.slice oa L.length oc) = some q → q < w2.heap.size) := Lib.hid (by
        intro q hq
        obtain ⟨-, cells, hrow, -⟩ := HO2.out
        exact (hrow.lt q hq).2)
      generalize rest[i] = x at *
      clear hrd hls hlc e2 e3 hcell r1 hi HO HRS hb
      go_wp2_with (at_builtin; refine append_evg (stableW _ W) rfl _ _ rfl (.slice oa L.length oc) L x [.int .i64 x.1, .slice s1 x.2.length c1] w2.heap.size rfl (HO2.out.later (stableW _ W) ((Below.refl _ _).alloc (Nat.le_refl _) _)) rfl (Blk.new _ _ _) ⟨_, rfl, HX.out⟩ (by have := HLN.out; have := HN.out; omega) ?_)
      intro v3 w3 h3 hg3
      obtain ⟨o3, c3, e3⟩ := h3.slc
      rw [show (L ++ [x]).length = L.length + 1 by simp] at e3
      subst e3
      have HO3 := Lib.hid h3
      have HRS3 := Lib.hid ((HRS2.out.on ((Below.refl w2.heap.size w2).alloc (Nat.le_refl _) (.cells #[.int .i64 x.1, .slice s1 x.2.length c1] 29))).grown hg3 (HNE.out (by intro e; rw [e] at h0; simp at h0)))
      have HLT3 : Hid (∀ q, Value.ownBlock (.slice o3 (L.length + 1) c3) = some q → q < w3.heap.size) := Lib.hid (by
        intro q hq
        obtain ⟨-, cells, hrow, -⟩ := HO3.out
        exact (hrow.lt q hq).2)
      clear h3 hg3 HO2 HRS2 HLT HNE c0 d0 d1
      go_wp2_with fail
      refine (without_any _ rest i W w3 HRS3.out HO3.out.1.2.2 HI.out.1 (by have := HLN.out; have := HN.out; omega)).mono ?_
      rintro e w4 ⟨v4, rfl, h4⟩
      have HRS4 := Lib.hid h4.readsW
      have HO4 := Lib.hid (HO3.out.later (stableW _ W) h4.1.2.2)
      have HNE4 : Hid (∀ q, v4.ownBlock = some q → Value.ownBlock (.slice o3 (L.length + 1) c3) ≠ some q) := Lib.hid (by
        intro q hq e
        obtain ⟨-, cells, hrow, -⟩ := h4
        have a1 := (hrow.lt q hq).1
        have a2 := HLT3.out q e
        omega)
      obtain ⟨o4, c4, rfl⟩ := h4.slc
      have HNM4 : Hid (normE t = (L ++ [x]) ++ normV (rest.eraseIdx i).length (rest.eraseIdx i)) := Lib.hid (by
        have h5 := HSTEP.out (rest.eraseIdx i).length
        rw [HER.out, HI.out.2] at h5
        rw [HNM.out, h5, List.append_assoc]; rfl)
      clear h4 HO3 HRS3 HLT3
      go_wp2
      go_roundg (rest.eraseIdx i).length
      case measure => have := HER.out; omega
      case rel => exact ⟨rest.eraseIdx i, L ++ [x], rfl, HNM4.out, by have := HER.out; have := HLN.out; simp; omega, HO4.out, HRS4.out, fun _ => HNE4.out⟩
    · have h0i : ¬ (0 : Int) < rest.length := by omega
      have HF : Hid (normE t = L) := Lib.hid (by
        have h1 : rest = [] := List.length_eq_zero_iff.1 (by omega)
        rw [HNM.out, h1]; simp [normV])
      go_wp2
      go_ret
      exact ⟨_, rfl, by rw [HF.out]; exact HO.out⟩
end Go.Proofs.Ytfdicndmebhmdaa
