/-
  Chapter 29: All: its visitor, and the function.
-/
import Derived.Test.YtfdicndmebhmdaaFh
namespace Go.Proofs.Ytfdicndmebhmdaa
open Go.RowKit

theorem take_map_succ {o : List Nat} {t : List Ev} {k : Nat} (h : k < o.length) : (o.take (k + 1)).map (nthE t) = (o.take k).map (nthE t) ++ [nthE t o[k]] := by
  rw [List.take_succ_eq_append_getElem h, List.map_append]; rfl
set_option maxRecDepth 100000 in
set_option maxHeartbeats 4000000 in
theorem allvis_any (pa po pl lim B : Nat) (tv : Value) (t : List Ev) (W0 : World) (hr : ReadsE W0 tv t) (hsm : SmallT t) (hlim : lim ≤ 100000) (seen : List (List Nat)) (F : Nat → Prop) (w : World) (ov : Value) (o : List Nat) (hv : AllV pa po pl lim B tv t seen F w) (hlt : seen.length < lim) (ho : Reads nv w ov o) (hom : ∀ x, x ∈ o → x < t.length) (hol : o.length ≤ t.length) (hb : Below W0.heap.size W0 w) :
    Calls Try.prog 44 #[ov, .pointer (some ⟨pa, 0, none⟩), .pointer (some ⟨po, 0, none⟩), .pointer (some ⟨pl, 0, none⟩)] w fun e w' => e = .returned (.bool (decide (seen.length + 1 < lim))) ∧ ∃ F', AllV pa po pl lim B tv t (seen ++ [o]) F' w' ∧ Kept F w w' ∧ ∀ b, F' b → (F b ∨ w.heap.size ≤ b) ∧ b < w'.heap.size := by
  have HV := Lib.hid hv
  have HR := Lib.hid (And.intro hr hb)
  have HO := Lib.hid ho
  have HOM := Lib.hid hom
  have HSM := Lib.hid hsm.2
  have hn := hsm.1
  obtain ⟨ta, tk, rfl, htl, htm, -, -⟩ := hr
  obtain ⟨xa, xk, rfl, hxl, hxm, -, -⟩ := ho
  unfold maxLen at htm hxm
  obtain ⟨cur, hcs, hmk⟩ := make_evs t.length (by omega) w
  have HCS := Lib.hid hcs
  have q0 := hv.bt.cell 0
  have q0' : w.cell? ⟨pa, 0, none⟩ = some (.slice ta t.length tk) := q0
  obtain ⟨bb, hbb⟩ : ∃ bb, bb = decide (seen.length + 1 < lim) := ⟨_, rfl⟩
  have HBB := Lib.hid hbb
  have HLT := Lib.hid hlt
  rw [← hbb]
  clear hv hb hom hsm hcs hbb hlt q0
  go_enter Try.func44, Try.ntmps44
  go_upto_region 2 with fail
  have H0 : Hid (OwnE w.heap.size (EvR w.heap.size) w (w.alloc (.cells cur 29)) (.slice (some ⟨w.heap.size, 0, none⟩) 0 t.length) []) := Lib.hid
    ⟨⟨Nat.le_refl _, by simp, (Below.refl _ _).alloc (Nat.le_refl _) _⟩, [], World.ownsRow_made w cur t.length (Nat.le_refl _) (by unfold maxLen; omega) HCS.out, fun k h => by simp at h⟩
  generalize hw1 : World.alloc w _ = w1 at *
  clear hw1 hmk q0'
  go_wp2
  go_loopg [6, 8, 14] o.length (fun m r _ idx wr => ∃ k : Nat, m + k = o.length ∧ idx = .int .i64 k ∧ OwnE w.heap.size (EvR w.heap.size) w wr r ((o.take k).map (nthE t)))
  case atStart => exact ⟨0, by omega, rfl, H0.out⟩
  case round =>
    clear H0
    obtain ⟨k, hmk, rfl, hown⟩ := hrel
    have HM := Lib.hid hmk
    have HOW := Lib.hid hown
    have hk : k ≤ o.length := by omega
    obtain ⟨oa, oc, rfl⟩ := hown.slc
    have HLK : Hid (((o.take k).map (nthE t)).length = k) := Lib.hid (by rw [List.length_map, List.length_take]; omega)
    clear hmk hown
    by_cases hlt : k < o.length
    · have hki : (k : Int) < o.length := by omega
      have hk0 : (0 : Int) ≤ (k : Int) := by omega
      have HK := Lib.hid (And.intro hlt trivial)
      obtain ⟨ao, cap, hv, -, -, -, hx⟩ := HO.out
      injection hv with e1 e2 e3
      subst e1 e3
      obtain ⟨b0, off0, rfl, hb0, hc0⟩ := hx (by intro e; subst e; simp at hlt)
      have c0 : wr.cell? ⟨b0, off0 + k, none⟩ = some (nv o[k]) := (HOW.out.1.2.2.cell (p := ⟨b0, off0 + k, none⟩) hb0).trans (hc0 k hlt)
      have hi : o[k] < t.length := HOM.out _ (List.getElem_mem hlt)
      have HTS := Lib.hid (take_map_succ (t := t) hlt)
      unfold nv at c0
      clear hx e2 hc0 hb0
      generalize o[k] = i at *
      clear hlt
      have KA := Lib.hid (HR.out.2.trans (HOW.out.1.2.2.mono HR.out.2.size))
      obtain ⟨b, off, cap1, s1, c1, hv, hcell, r1⟩ := HR.out.1.at2 hi
      injection hv with e1 e2 e3
      subst e1
      have hii : (i : Int) < t.length := by omega
      have hi0 : (0 : Int) ≤ (i : Int) := by omega
      have d0 := (hcell wr KA.out).1
      have d1 := (hcell wr KA.out).2
      have q1 : wr.cell? ⟨pa, 0, none⟩ = some (.slice (some ⟨b, off, none⟩) t.length tk) := (HV.out.bt.on HOW.out.1.2.2).cell 0
      have HNE := Lib.hid (nthE_eq hi)
      have HLE := Lib.hid (HSM.out _ (List.getElem_mem hi))
      have HE := Lib.hid r1
      rw [HNE.out] at HTS
      clear e2 e3 hcell r1 HNE
      generalize t[i] = x at *
      have HFR := Lib.hid (fresh_any _ x wr ⟨_, rfl, HE.out.keep KA.out⟩ HLE.out)
      unfold evV at HFR
      go_wp2_with fail
      refine HFR.out.mono ?_
      rintro e w4 ⟨v4, rfl, hrow4, hb4⟩
      obtain ⟨vu, rfl, hu4⟩ := hrow4
      have HV4 := Lib.hid hu4
      have HOW4 := Lib.hid (HOW.out.later (stableR _ _) hb4)
      obtain ⟨a4, k4, rfl⟩ := row_slc hu4
      have HB4 := Lib.hid hb4
      clear hu4 hb4 HFR d0 d1 c0 q1
      unfold evV
      generalize hL : (o.take k).map (nthE t) = L at *
      have HLL := Lib.hid hL
      clear hL
      have hll : L.length ≤ 1000 := by have := HLK.out; omega
      go_wp2_with (at_builtin; refine append_ev (B := w.heap.size) (E := EvR w.heap.size) (w0 := w) (stableR _ _) rfl _ _ rfl (.slice oa L.length oc) L x [.int .i64 x.1, .slice a4 x.2.length k4] w4.heap.size rfl (HOW4.out.later (stableR _ _) ((Below.refl _ _).alloc (Nat.le_refl _) _)) rfl (Blk.new _ _ _) ⟨_, rfl, (ownsRow_base HV4.out (by have := HOW.out.1.2.1; omega)).alloc _⟩ (by omega) ?_)
      intro v' w' h1 hg1
      have HX := Lib.hid h1
      clear h1 hg1
      go_wp2
      go_roundg (o.length - (k + 1))
      case measure => have := HM.out; omega
      case rel => exact ⟨k + 1, by have := HM.out; have := HK.out.1; omega, by go_num, by rw [HTS.out]; exact HX.out⟩
    · have e : k = o.length := by omega
      subst e
      rw [List.take_length]
      have how := HOW.out
      rw [List.take_length] at how
      rw [List.length_map] at how
      rw [List.length_map]
      clear HLK
      obtain ⟨v0, hbo, hrows, hvF⟩ := HV.out.bo
      have hal : Below wr.heap.size wr (wr.alloc (.cells #[.slice oa o.length oc] 22)) := (Below.refl _ _).alloc (Nat.le_refl _) _
      have KW := Lib.hid how.1.2.2
      have qo : wr.cell? ⟨po, 0, none⟩ = some v0 := (hbo.on how.1.2.2).cell 0
      have hF2 : ∀ b, F b → b < w.heap.size := fun b hb => (HV.out.fb b hb).2
      have hlo := HV.out.lo
      have HY := Lib.hid (EvsF.of_own (how.later (stableR _ _) hal))
      have HROWS : Hid (RowsF (fun b => F b ∨ (w.heap.size ≤ b ∧ b < (wr.alloc (.cells #[.slice oa o.length oc] 22)).heap.size)) B (wr.alloc (.cells #[.slice oa o.length oc] 22)) v0 (seen.map fun o => o.map (nthE t))) := Lib.hid (by
        obtain ⟨us, a1, a2⟩ := hrows.kept (Kept.of (S := fun _ => False) (how.1.2.2.trans (hal.mono how.1.2.2.size))) (fun _ q => q.elim) hvF
        exact ⟨us, a1, fun k hk => by obtain ⟨u, b1, b2⟩ := a2 k hk; exact ⟨u, b1, b2.mono fun b hb => .inl hb⟩⟩)
      have HPO := Lib.hid (And.intro hbo (And.intro hvF (And.intro hF2 hlo)))
      have hsl : (seen.map fun o => o.map (nthE t)).length = seen.length := List.length_map ..
      obtain ⟨va, vc, rfl⟩ : ∃ a c, v0 = .slice a seen.length c := by obtain ⟨us, a1, _⟩ := hrows; rw [hsl] at a1; exact row_slc a1
      have hsn : seen.length ≤ 100000 := by have := HLT.out; omega
      have HSL := Lib.hid hsl
      clear how hbo hrows hvF hal hF2 hlo hsl
      have hA1 : ∀ b, (Value.slice va seen.length vc).ownBlock = some b → F b ∨ (w.heap.size ≤ b ∧ b < (wr.alloc (.cells #[.slice oa o.length oc] 22)).heap.size) := fun b hb => Or.inl (HPO.out.2.1 b hb)
      have hA2 : EvsF (fun b => F b ∨ (w.heap.size ≤ b ∧ b < (wr.alloc (.cells #[.slice oa o.length oc] 22)).heap.size)) (wr.alloc (.cells #[.slice oa o.length oc] 22)) (.slice oa o.length oc) (o.map (nthE t)) := HY.out.mono fun b hb => Or.inr hb
      have hA3 : B ≤ (wr.alloc (.cells #[.slice oa o.length oc] 22)).heap.size := by have := HPO.out.2.2.2; have := KW.out.size; simp; omega
      have HA := Lib.hid (And.intro hA1 (And.intro hA2 hA3))
      clear hA1 hA2 hA3
      go_wp2_with (at_builtin; refine append_rows rfl _ _ rfl (.slice va seen.length vc) (.slice oa o.length oc) _ (o.map (nthE t)) wr.heap.size rfl HROWS.out rfl (Blk.new _ _ _) HA.out.2.1 (by rw [HSL.out]; exact hsn) HA.out.2.2 ?_)
      intro v' w5 hr5 hg5 hvb hv5
      have hk5 : Kept (fun b => some b = (Value.slice va seen.length vc).ownBlock) (wr.alloc (.cells #[.slice oa o.length oc] 22)) w5 := Kept.ofG hg5 fun k hk => hk
      have hb5 : Blk w5 po 38 #[.slice va seen.length vc] := hk5.blk ((HPO.out.1.on KW.out).alloc _) fun q => by
        obtain ⟨us, a1, _⟩ := HROWS.out
        have := (a1.lt po q.symm).1
        have := HPO.out.2.2.2
        omega
      have c5 := hb5.cell 0
      have f5 := hb5.frozen 0
      have l5 := hb5.lt
      obtain ⟨va5, vc5, rfl⟩ : ∃ a c, v' = .slice a (seen.length + 1) c := by
        obtain ⟨us, a1, _⟩ := hr5
        rw [List.length_append, HSL.out] at a1; exact row_slc a1
      have HPOST : Hid (∀ w6, w6 = w5.setCell ⟨po, 0, none⟩ (.slice va5 (seen.length + 1) vc5) → Blk w6 po 38 #[.slice va5 (seen.length + 1) vc5] ∧ AllV pa po pl lim B (.slice ta t.length tk) t (seen ++ [o]) (fun b => F b ∨ (w.heap.size ≤ b ∧ b < w5.heap.size)) w6 ∧ Kept F w w6 ∧ (∀ b, (F b ∨ (w.heap.size ≤ b ∧ b < w5.heap.size)) → (F b ∨ w.heap.size ≤ b) ∧ b < w6.heap.size)) := Lib.hid (by
        intro w6 hw6
        have hs6 : w6.heap.size = w5.heap.size := by rw [hw6]; simp [World.setCell]
        have hkp : Kept (fun b => b = po) w5 w6 := by rw [hw6]; exact Kept.set _ rfl
        have hlo := HPO.out.2.2.2
        have hsz := KW.out.size
        have hsz5 := hg5.size
        simp only [World.size_alloc] at hsz5
        have hF5 : ∀ b, (F b ∨ (w.heap.size ≤ b ∧ b < wr.heap.size + 1)) → F b ∨ (w.heap.size ≤ b ∧ b < w5.heap.size) := fun b hb => hb.imp id fun h => ⟨h.1, by have h2 := h.2; omega⟩
        have hK : Kept F w w6 := ((Kept.of (S := F) (KW.out.alloc KW.out.size (.cells #[.slice oa o.length oc] 22))).trans2 hk5 fun b hb => .inl (HPO.out.2.1 b hb.symm)).trans2 hkp fun b hb => .inl (by rw [hb]; exact HV.out.fp)
        refine ⟨by rw [hw6]; simpa using hb5.set_ 0 (.slice va5 (seen.length + 1) vc5), ⟨hK.blk HV.out.bt fun q => by have := (HV.out.fb _ q).1; omega, hK.blk HV.out.bl fun q => by have := (HV.out.fb _ q).1; omega, ⟨_, by rw [hw6]; simpa using hb5.set_ 0 (.slice va5 (seen.length + 1) vc5), ?_, fun b hb => ?_⟩, .inl HV.out.fp, fun b hb => ?_, hlo.1, hlo.2.1, hlo.2.2.1, by omega⟩, hK, fun b hb => ?_⟩
        · obtain ⟨us, a1, a2⟩ := hr5
          rw [List.map_append]
          refine ⟨us, hkp.row a1 fun b hb q => by have := (hv5 b hb).2; omega, fun k hk => ?_⟩
          obtain ⟨u, b1, cells, e1, e2, e3⟩ := a2 k hk
          have hnp : ∀ {b : Nat} {T : TypeId} {s n : Nat} {v : Value} {xs : List Value}, w5.ownsRow 0 T s v n xs → v.ownBlock = some b → T ≠ 38 → ¬ b = po := fun h1 h2 h3 => row_blk_ne h1 hb5 h3 _ h2
          refine ⟨u, b1, cells, hkp.row e1 fun b hb => hnp e1 hb (by decide), fun b hb => hF5 b (e2 b hb), fun j hj => ?_⟩
          obtain ⟨vu, g1, g2, g3⟩ := e3 j hj
          exact ⟨vu, g1, hkp.row g2 fun b hb => hnp g2 hb (by decide), fun b hb => hF5 b (g3 b hb)⟩
        · have h1 := hv5 b hb
          rcases hvb with e | e
          · exact .inl (HPO.out.2.1 b (e ▸ hb))
          · rw [e] at hb
            injection hb with hb
            exact .inr ⟨by omega, h1.1⟩
        · rcases hb with h | h
          · exact ⟨(HV.out.fb b h).1, by have := (HV.out.fb b h).2; omega⟩
          · exact ⟨.inr (by omega), by omega⟩
        · rcases hb with h | h
          · exact ⟨.inl h, by have := (HV.out.fb b h).2; omega⟩
          · exact ⟨.inr h.1, by omega⟩)
      have HVB := Lib.hid hvb
      clear hk5 hb5 hr5 hg5 hv5 hvb
      go_upto_region 8 with fail
      generalize hw6 : World.setCell w5 _ _ = w6 at *
      have hx6 := HPOST.out w6 rfl
      have HX6 := Lib.hid hx6
      have q7 : w6.cell? ⟨po, 0, none⟩ = some (.slice va5 (seen.length + 1) vc5) := hx6.1.cell 0
      have q8 : w6.cell? ⟨pl, 0, none⟩ = some (.int .i64 (lim : Int)) := hx6.2.1.bl.cell 0
      have hbb2 : decide ((seen.length : Int) + 1 < (lim : Int)) = bb := by rw [HBB.out, Bool.eq_iff_iff]; simp; omega
      clear hx6 hw6 c5 f5 l5 HPOST
      go_wp2
      go_ret
      exact ⟨rfl, _, HX6.out.2⟩
end Go.Proofs.Ytfdicndmebhmdaa
