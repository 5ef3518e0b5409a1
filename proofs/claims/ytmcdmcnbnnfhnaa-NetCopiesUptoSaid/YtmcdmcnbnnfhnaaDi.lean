/-
  Chapter 28: lists of certificates copied; an element of a row replaced.
-/
import Derived.Test.YtmcdmcnbnnfhnaaDh
namespace Go.Proofs.Ytmcdmcnbnnfhnaa
open Go.RowKit

theorem setCells_kept (g : Nat) : ∀ (cs : List Value) (w : World) (o : Nat), Kept (fun b => b = g) w (w.setCells g o cs)
  | [], w, _ => Kept.refl _ w
  | c :: cs, w, o => Kept.trans (S := fun b => b = g) (Kept.set (S := fun b => b = g) (p := ⟨g, o, none⟩) c rfl) (setCells_kept g cs (w.setCell ⟨g, o, none⟩ c) (o + 1))
theorem blk_setCells {g : Nat} {t : TypeId} : ∀ (cs : List Value) (w : World) (o : Nat) (cur : Array Value), Blk w g t cur → o + cs.length ≤ cur.size → ∃ cur', Blk (w.setCells g o cs) g t cur' ∧ cur'.size = cur.size ∧ (∀ q, q < cs.length → cur'[o + q]? = cs[q]?) ∧ (∀ q, q < o ∨ o + cs.length ≤ q → cur'[q]? = cur[q]?)
  | [], w, o, cur, h, _ => ⟨cur, h, rfl, (fun q hq => absurd hq (Nat.not_lt_zero _)), fun _ _ => rfl⟩
  | c :: cs, w, o, cur, h, hl => by
    rw [List.length_cons] at hl
    obtain ⟨cur', h1, h2, h3, h4⟩ := blk_setCells cs (w.setCell ⟨g, o, none⟩ c) (o + 1) (cur.setIfInBounds o c) (h.set_ o c) (by simp; omega)
    refine ⟨cur', h1, by simpa using h2, fun q hq => ?_, fun q hq => ?_⟩
    · cases q with
      | zero =>
        rw [Nat.add_zero, h4 o (.inl (by omega)), Array.getElem?_setIfInBounds, if_pos rfl, if_pos (by omega)]
        rfl
      | succ q =>
        have := h3 q (by simpa using hq)
        rw [show o + (q + 1) = o + 1 + q by omega, this]
        rfl
    · rw [List.length_cons] at hq
      rw [h4 q (by omega), Array.getElem?_setIfInBounds, if_neg (by omega)]
section
variable {w w' : World} {g cap K : Nat} {T : TypeId} {Q Q' : Nat → Nat → Nat → Prop} {ds : List (List DV)}
/-- An element of the row. -/
theorem RowD.row (h : RowD w g cap T K Q ds) {j : Nat} (hj : j < ds.length) : ∃ cs : List Value, cs.length = K ∧ (∀ wq, Below w.heap.size w wq → wq.rangeAt g (j * K) cs) ∧ (∀ wq, Below w.heap.size w wq → wq.there g (j * K) K) ∧ ds[j].length = K ∧ ∀ i u d, cs[i]? = some u → ds[j][i]? = some d → ReadsD (Q j i) w u d := by
  obtain ⟨cur, h1, h2, h3, h4, h5⟩ := h
  obtain ⟨hK, h6⟩ := h5 j hj
  have hjk : j * K + K ≤ cap * K := by rw [← Nat.succ_mul]; exact Nat.mul_le_mul_right _ (by omega)
  have hget : ∀ i, i < K → (((cur.toList.drop (j * K)).take K)[i]? = cur[j * K + i]?) := fun i hi => by
    rw [List.getElem?_take, if_pos hi, List.getElem?_drop, Array.getElem?_toList]
  refine ⟨(cur.toList.drop (j * K)).take K, by rw [List.length_take, List.length_drop, show cur.toList.length = cur.size from rfl]; omega, fun wq hq i u hu => ?_, fun wq hq i hi => ?_, hK, fun i u d hu hd => ?_⟩
  · have hi : i < K := by have := (List.getElem?_eq_some_iff.1 hu).1; rw [List.length_take] at this; omega
    rw [hget i hi] at hu
    exact ((h1.on hq).cell _).trans hu
  · rw [(h1.on hq).cell, (h1.on hq).frozen]
    exact ⟨by rw [Array.getElem?_eq_getElem (by omega)]; rfl, rfl⟩
  · obtain ⟨hi, rfl⟩ := List.getElem?_eq_some_iff.1 hd
    rw [hget i (by omega)] at hu
    obtain ⟨z, a, b⟩ := h6 i hi
    rw [a] at hu
    injection hu with hu
    subst hu; exact b
/-- An element replaced. -/
theorem RowD.putRow (h : RowD w g cap T K Q ds) {j0 : Nat} {cs : List Value} {P : Nat → Prop} (hj : j0 < ds.length) (hcs : CellsD P w cs ds[j0]) (hP : ¬ P g) (hQ : ∀ j i, ¬ Q j i g) (hQ' : ∀ j i b, (if j = j0 then P b else Q j i b) → Q' j i b) : RowD (w.setCells g (j0 * K) cs) g cap T K Q' ds := by
  obtain ⟨cur, h1, h2, h3, h4, h5⟩ := h
  have hK0 := (h5 j0 hj).1
  have hl : cs.length = K := by rw [hcs.1, hK0]
  have hjk : j0 * K + K ≤ cap * K := by rw [← Nat.succ_mul]; exact Nat.mul_le_mul_right _ (by omega)
  obtain ⟨cur', g1, g2, g3, g4⟩ := blk_setCells cs w (j0 * K) cur h1 (by omega)
  have hk := setCells_kept g cs w (j0 * K)
  refine ⟨cur', g1, h2, h3, by omega, fun j hjj => ⟨(h5 j hjj).1, fun i hii => ?_⟩⟩
  have hKl := (h5 j hjj).1
  by_cases e : j = j0
  · subst e
    have hi : i < cs.length := by omega
    refine ⟨cs[i], by rw [g3 i hi, List.getElem?_eq_getElem hi], ?_⟩
    have h6 := hcs.2 i cs[i] ds[j][i] (List.getElem?_eq_getElem hi) (List.getElem?_eq_getElem hii)
    exact (h6.kept hk fun b hb e => hP (e ▸ hb)).mono fun b hb _ => hQ' j i b (by rw [if_pos rfl]; exact hb)
  · obtain ⟨z, a, b⟩ := (h5 j hjj).2 i hii
    refine ⟨z, ?_, (b.kept hk fun b hb e => hQ j i (e ▸ hb)).mono fun b hb _ => hQ' j i b (by rw [if_neg e]; exact hb)⟩
    rw [g4 _ ?_]
    · exact a
    · rw [hl]
      rcases Nat.lt_or_gt_of_ne e with hlt | hgt
      · left
        have : j * K + K ≤ j0 * K := by rw [← Nat.succ_mul]; exact Nat.mul_le_mul_right _ hlt
        omega
      · right
        have : j0 * K + K ≤ j * K := by rw [← Nat.succ_mul]; exact Nat.mul_le_mul_right _ hgt
        omega
end
theorem CellsD.all {P : Nat → Prop} {w : World} {cs : List Value} {ds : List DV} (h : CellsD P w cs ds) : cs.toArray.all (·.oneCell') = true := all_oneCell_toArray fun v hv => by
  obtain ⟨i, hi, rfl⟩ := List.mem_iff_getElem.1 hv
  have hi2 : i < ds.length := by rw [← h.1]; exact hi
  exact (h.2 i _ _ (List.getElem?_eq_getElem hi) (List.getElem?_eq_getElem hi2)).one
/-- A loop over a row: the elements before i are copied. -/
def QE (B g i : Nat) : Nat → Nat → Nat → Prop := fun j _ b => if j < i then g < b else b < B
theorem QE.not {B g i : Nat} (hg : B ≤ g) (j k : Nat) : ¬ QE B g i j k g := by unfold QE; split <;> omega
theorem QE.step {B g i j k b : Nat} (h : if j = i then g < b else QE B g i j k b) : QE B g (i + 1) j k b := by
  unfold QE at h ⊢
  by_cases e : j = i
  · rw [if_pos e] at h; rw [if_pos (by omega)]; exact h
  · rw [if_neg e] at h
    by_cases e2 : j < i
    · rw [if_pos e2] at h; rw [if_pos (by omega)]; exact h
    · rw [if_neg e2] at h; rw [if_neg (by omega)]; exact h
theorem cert_len (c : CertM) : (certD c).length = 9 := rfl
set_option maxRecDepth 100000 in
set_option maxHeartbeats 4000000 in
theorem certificates_any {P : Nat → Prop} (v : Value) (l : List CertM) (w : World) (h : ReadsD P w v (certsD l)) : Calls Try.prog 58 #[v] w (DeepMade w (certsD l)) := by
  have HC := Lib.hid (cert_clone v _ w (h.lt.mono (P' := fun b => b < w.heap.size) fun b hb _ => hb.2))
  clear h
  go_enter Try.func58, Try.ntmps58
  go_wp2_with fail
  refine HC.out.mono ?_
  rintro e w1 ⟨v1, rfl, hb1, hcl⟩
  clear HC
  rcases hcl with ⟨hx, ao, cap, rfl, h1, h2⟩ | ⟨hne, g, cap, rfl, hg, hrow⟩
  · have hl : l = [] := by simpa using hx
    subst hl
    have HF := Lib.hid (And.intro hb1 (And.intro h1 h2))
    clear hx hb1 h1 h2
    go_wp2
    go_loopg [4, 9] 0 (fun m _ ix wr => ix = .int .i64 0 ∧ wr = w1)
    case atStart => exact ⟨rfl, rfl⟩
    case round =>
      obtain ⟨rfl, rfl⟩ := hrel
      go_wp2
      go_ret
      exact ⟨_, rfl, HF.out.1, .nil 9 ao cap HF.out.2.1 HF.out.2.2⟩
  · have HB := Lib.hid (And.intro hb1 hg)
    have HR := Lib.hid (hrow.mono (Q' := QE w.heap.size g 0) fun j k b hb _ => by unfold QE; rw [if_neg (by omega)]; exact hb)
    obtain ⟨⟨-, hL⟩, -⟩ := hrow.bounds
    rw [List.length_map] at hL ⊢
    clear hne hb1 hg hrow
    go_wp2
    go_loopg [4, 9] l.length (fun m _ ix wr => ∃ i : Nat, m + i = l.length ∧ ix = .int .i64 i ∧ RowD wr g cap 89 9 (QE w.heap.size g i) (l.map certD) ∧ Below w.heap.size w wr)
    case atStart => exact ⟨0, by omega, rfl, HR.out, HB.out.1⟩
    case round =>
      clear HR
      rename World => w2
      obtain ⟨i, hmi, rfl, hrow, hb2⟩ := hrel
      have HM := Lib.hid hmi
      have HROW := Lib.hid hrow
      have K2 := Lib.hid hb2
      have hi : i ≤ l.length := by omega
      have hi0 : (0 : Int) ≤ (i : Int) := by omega
      clear hmi hrow hb2
      by_cases hlt : i < l.length
      · have hii : (i : Int) < l.length := by omega
        have HLT := Lib.hid (And.intro hlt trivial)
        have q1 : i < (l.map certD).length := by simpa using hlt
        have q3 : (l.map certD)[i] = certD l[i] := List.getElem_map ..
        obtain ⟨cs, hcl, hrg, hth, -, hrd⟩ := HROW.out.row q1
        rw [q3] at hrd
        have hcd : CellsD (fun b => b < w.heap.size) w2 cs (certD l[i]) := ⟨by rw [hcl]; rfl, fun k u d h1 h2 => (hrd k u d h1 h2).mono fun b hb _ => by unfold QE at hb; rw [if_neg (by omega)] at hb; exact hb⟩
        have HCALL := Lib.hid (certificate_any l[i] cs w2 hcd)
        have HQ := Lib.hid (fun (w' : World) (cs' : List Value) (hb : Below w2.heap.size w2 w') (hv : CellsD (fun b => g < b) w' cs' (certD l[i])) => (HROW.out.on hb).putRow (Q' := QE w.heap.size g (i + 1)) q1 (by rw [q3]; exact hv) (Nat.lt_irrefl g) (QE.not HB.out.2) fun _ _ _ h => QE.step h)
        have HRG := Lib.hid (And.intro (hrg w2 (Below.refl _ _)) hcl)
        have HTH := Lib.hid hth
        have HGL := Lib.hid HROW.out.lt
        clear hcl hrg hth hrd hcd q3 HROW
        generalize l[i] = x at *
        clear q1 hlt
        go_wp2_with (refine wpList_load_mid rfl 89 (.tmp 16) rfl g (i * 9) rfl cs _ HRG.out.1 Try.underlying89 rfl (by rw [HRG.out.2]; kernel_rfl) ?_)
        refine HCALL.out.mono ?_
        rintro e w3 ⟨cs', rfl, hb3, hv3⟩
        have hcl' : cs'.length = 9 := hv3.1
        have HN := Lib.hid (HQ.out w3 cs' hb3 (hv3.mono fun b hb _ => by have := HGL.out; omega))
        have HT3 := Lib.hid (HTH.out w3 hb3)
        have HAL := Lib.hid (And.intro hcl' hv3.all)
        have HK3 := Lib.hid ((K2.out.trans (hb3.mono K2.out.size)).trans ((setCells_kept g cs' w3 (i * 9)).below (Nat.le_trans K2.out.size hb3.size) fun b hb e => by have := HB.out.2; omega))
        clear HCALL HQ HRG HTH HGL hb3 hv3 hcl' K2
        obtain ⟨w4, hw4⟩ : ∃ w4, w4 = w3.setCells g (i * 9) cs' := ⟨_, rfl⟩
        rw [← hw4] at HN HK3
        have HW4 := Lib.hid hw4.symm
        clear hw4
        go_wp2_with (refine wpList_store_mid rfl 89 (.tmp 19) (.tmp 18) rfl g (i * 9) cs'.toArray rfl rfl (by rw [List.size_toArray, HAL.out.1]; exact HT3.out) (by rw [List.size_toArray, HAL.out.1]; kernel_rfl) HAL.out.2 ?_; rw [List.toList_toArray, HW4.out])
        go_wp2
        go_roundg (l.length - (i + 1))
        case measure => have := HM.out; have := HLT.out.1; omega
        case rel => exact ⟨i + 1, by have := HLT.out.1; omega, by go_num, HN.out, HK3.out⟩
      · have hii : ¬ (i : Int) < l.length := by omega
        have e : i = l.length := by omega
        have HF : Hid (ReadsD (fun b => w.heap.size ≤ b) w2 (.slice (some ⟨g, 0, none⟩) l.length cap) (certsD l)) := Lib.hid (by
          have h1 := RowD.reads (P := fun b => w.heap.size ≤ b) (Q := fun _ _ b => w.heap.size ≤ b) (HROW.out.vals fun j hj k hk => .inr fun b hb => by
            unfold QE at hb
            rw [if_pos (by rw [e]; simpa using hj)] at hb
            have := HB.out.2
            omega) HB.out.2 fun _ _ _ hb _ => hb
          unfold certsD; simpa using h1)
        clear e
        go_wp2
        go_ret
        exact ⟨_, rfl, K2.out, HF.out⟩
end Go.Proofs.Ytmcdmcnbnnfhnaa
