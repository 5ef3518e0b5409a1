/-
  Chapter 29: each, with Count's visitor.
-/
import Derived.Test.YtfdicndmebhmdaaFc
import Derived.Laws.EntriesVeiled
namespace Go.Proofs.Ytfdicndmebhmdaa
open Go.RowKit

set_option maxRecDepth 100000 in
set_option maxHeartbeats 8000000 in
theorem eachCount_any (W0 w : World) (tv : Value) (t : List Ev) (lim : Nat) (hlim : 0 < lim) (V : List (List Nat) → (Nat → Prop) → World → Prop) (F : Nat → Prop) (pn pl : Nat) (hr : ReadsE W0 tv t) (hb : Below W0.heap.size W0 w) (hsm : t.length ≤ 1000) (hF : ∀ b, F b → W0.heap.size ≤ b ∧ b < w.heap.size)
    (hV : ∀ seen F w1 w2 S, V seen F w1 → Kept S w1 w2 → (∀ b, S b → w.heap.size ≤ b ∧ ¬ F b) → V seen F w2)
    (hv : ∀ seen F w ov o, V seen F w → seen.length < lim → Reads nv w ov o → (∀ x, x ∈ o → x < t.length) → o.length ≤ t.length → Below W0.heap.size W0 w → Calls Try.prog 43 #[ov, .pointer (some ⟨pn, 0, none⟩), .pointer (some ⟨pl, 0, none⟩)] w fun e w' => e = .returned (.bool (decide (seen.length + 1 < lim))) ∧ ∃ F', V (seen ++ [o]) F' w' ∧ Kept F w w' ∧ ∀ b, F' b → (F b ∨ w.heap.size ≤ b) ∧ b < w'.heap.size)
    (hv0 : V [] F w) : Calls Try.prog 42 #[tv, (.func (.func 43) #[] #[.pointer (some ⟨pn, 0, none⟩), .pointer (some ⟨pl, 0, none⟩)])] w fun e w' => e = .returned (.tuple #[]) ∧ ∃ F', V ((linsI t).take lim) F' w' ∧ Kept F w w' ∧ ∀ b, F' b → F b ∨ w.heap.size ≤ b := by
  have HR := Lib.hid (And.intro hr hb)
  have HF := Lib.hid hF
  have HV := Lib.hid (And.intro hV (And.intro hv hv0))
  obtain ⟨ta, tn, tk, rfl⟩ := Slc.of_readsK hr
  clear hr hb hF hV hv hv0
  go_enter Try.func42, Try.ntmps42
  go_upto_region 1 with fail
  have HB1 : Hid (Blk ((w.alloc (.cells #[.slice ta tn tk] 22)).alloc (.cells #[(.func (.func 43) #[] #[.pointer (some ⟨pn, 0, none⟩), .pointer (some ⟨pl, 0, none⟩)])] 56)) w.heap.size 22 #[.slice ta tn tk] ∧ Blk ((w.alloc (.cells #[.slice ta tn tk] 22)).alloc (.cells #[(.func (.func 43) #[] #[.pointer (some ⟨pn, 0, none⟩), .pointer (some ⟨pl, 0, none⟩)])] 56)) (w.heap.size + 1) 56 #[(.func (.func 43) #[] #[.pointer (some ⟨pn, 0, none⟩), .pointer (some ⟨pl, 0, none⟩)])]) :=
    Lib.hid ⟨(Blk.new w _ _).alloc _, by have h0 := Blk.new (w.alloc (.cells #[.slice ta tn tk] 22)) 56 #[(.func (.func 43) #[] #[.pointer (some ⟨pn, 0, none⟩), .pointer (some ⟨pl, 0, none⟩)])]; rwa [World.size_alloc] at h0⟩
  have KW1 := Lib.hid (below_two w (.cells #[.slice ta tn tk] 22) (.cells #[(.func (.func 43) #[] #[.pointer (some ⟨pn, 0, none⟩), .pointer (some ⟨pl, 0, none⟩)])] 56))
  generalize hw1 : World.alloc (World.alloc w _) _ = w1 at *
  have HZ1 : Hid (w1.heap.size = w.heap.size + 2) := Lib.hid (by rw [← hw1]; simp)
  clear hw1
  have KA1 := Lib.hid (HR.out.2.trans (KW1.out.mono HR.out.2.size))
  have q0 : w1.cell? ⟨w.heap.size, 0, none⟩ = some (.slice ta tn tk) := HB1.out.1.cell 0
  have HNEW := Lib.hid (new_any _ t w1 (HR.out.1.on KA1.out) hsm)
  go_wp2_with fail
  refine HNEW.out.mono ?_
  rintro e w2 ⟨gs, gw, gn, gu, rfl, hgw, hgu, hsr, hb2⟩
  have HSR := Lib.hid hsr
  have HB2 := Lib.hid hb2
  clear hgw hgu hsr hb2 HNEW q0
  go_upto_region 5 with fail
  have H5 : Hid (Blk (((w2.alloc (.cells #[.pointer (some ⟨gs, 0, none⟩)] 47)).alloc (.cells #[.slice none 0 0] 25)).alloc (.cells #[(.func (.func 58) #[] #[.pointer (some ⟨w2.heap.size + 1, 0, none⟩), .pointer (some ⟨w.heap.size, 0, none⟩), .pointer (some ⟨w.heap.size + 1, 0, none⟩), .pointer (some ⟨w2.heap.size, 0, none⟩), .pointer (some ⟨w2.heap.size + 1 + 1, 0, none⟩)])] 23)) w2.heap.size 47 #[.pointer (some ⟨gs, 0, none⟩)] ∧ Blk (((w2.alloc (.cells #[.pointer (some ⟨gs, 0, none⟩)] 47)).alloc (.cells #[.slice none 0 0] 25)).alloc (.cells #[(.func (.func 58) #[] #[.pointer (some ⟨w2.heap.size + 1, 0, none⟩), .pointer (some ⟨w.heap.size, 0, none⟩), .pointer (some ⟨w.heap.size + 1, 0, none⟩), .pointer (some ⟨w2.heap.size, 0, none⟩), .pointer (some ⟨w2.heap.size + 1 + 1, 0, none⟩)])] 23)) (w2.heap.size + 1) 25 #[.slice none 0 0] ∧
      Blk (((w2.alloc (.cells #[.pointer (some ⟨gs, 0, none⟩)] 47)).alloc (.cells #[.slice none 0 0] 25)).alloc (.cells #[(.func (.func 58) #[] #[.pointer (some ⟨w2.heap.size + 1, 0, none⟩), .pointer (some ⟨w.heap.size, 0, none⟩), .pointer (some ⟨w.heap.size + 1, 0, none⟩), .pointer (some ⟨w2.heap.size, 0, none⟩), .pointer (some ⟨w2.heap.size + 1 + 1, 0, none⟩)])] 23)) (w2.heap.size + 1 + 1) 23 #[(.func (.func 58) #[] #[.pointer (some ⟨w2.heap.size + 1, 0, none⟩), .pointer (some ⟨w.heap.size, 0, none⟩), .pointer (some ⟨w.heap.size + 1, 0, none⟩), .pointer (some ⟨w2.heap.size, 0, none⟩), .pointer (some ⟨w2.heap.size + 1 + 1, 0, none⟩)])]) := Lib.hid (by
    refine ⟨((Blk.new w2 _ _).alloc _).alloc _, ?_, ?_⟩
    · have h0 := (Blk.new (w2.alloc (.cells #[.pointer (some ⟨gs, 0, none⟩)] 47)) 25 #[.slice none 0 0]).alloc (.cells #[(.func (.func 58) #[] #[.pointer (some ⟨w2.heap.size + 1, 0, none⟩), .pointer (some ⟨w.heap.size, 0, none⟩), .pointer (some ⟨w.heap.size + 1, 0, none⟩), .pointer (some ⟨w2.heap.size, 0, none⟩), .pointer (some ⟨w2.heap.size + 1 + 1, 0, none⟩)])] 23)
      rwa [World.size_alloc] at h0
    · have h0 := Blk.new ((w2.alloc (.cells #[.pointer (some ⟨gs, 0, none⟩)] 47)).alloc (.cells #[.slice none 0 0] 25)) 23 #[(.func (.func 58) #[] #[.pointer (some ⟨w2.heap.size + 1, 0, none⟩), .pointer (some ⟨w.heap.size, 0, none⟩), .pointer (some ⟨w.heap.size + 1, 0, none⟩), .pointer (some ⟨w2.heap.size, 0, none⟩), .pointer (some ⟨w2.heap.size + 1 + 1, 0, none⟩)])]
      rwa [World.size_alloc, World.size_alloc] at h0)
  have KW5 := Lib.hid ((((Below.refl w2.heap.size w2).alloc (Nat.le_refl _) (.cells #[.pointer (some ⟨gs, 0, none⟩)] 47)).alloc (by simp) (.cells #[.slice none 0 0] 25)).alloc (by simp; omega) (.cells #[(.func (.func 58) #[] #[.pointer (some ⟨w2.heap.size + 1, 0, none⟩), .pointer (some ⟨w.heap.size, 0, none⟩), .pointer (some ⟨w.heap.size + 1, 0, none⟩), .pointer (some ⟨w2.heap.size, 0, none⟩), .pointer (some ⟨w2.heap.size + 1 + 1, 0, none⟩)])] 23))
  generalize hw5 : World.alloc (World.alloc (World.alloc w2 _) _) _ = w5 at *
  have HZ5 : Hid (w5.heap.size = w2.heap.size + 3) := Lib.hid (by rw [← hw5]; simp)
  clear hw5
  obtain ⟨C, hCe⟩ : ∃ C : Ctx, C = { W0 := W0, tv := .slice ta tn tk, t := t, gs := gs, gw := gw, gn := gn, gu := gu, M0 := w1.heap.size, N0 := w2.heap.size, Wc := w.heap.size, N1 := w2.heap.size + 3, pt := w.heap.size, pv := w.heap.size + 1, ps := w2.heap.size, po := w2.heap.size + 1, pe := w2.heap.size + 1 + 1, vis := (.func (.func 43) #[] #[.pointer (some ⟨pn, 0, none⟩), .pointer (some ⟨pl, 0, none⟩)]) } := ⟨_, rfl⟩
  have hok : C.Ok := by
    have h1 := HZ1.out
    have h2 := HB2.out.size
    have h3 := HR.out.2.size
    subst hCe
    exact ⟨h3, ⟨Nat.le_refl _, Nat.le_succ _⟩, by simp only; omega, by simp only; omega, by simp only; omega, by simp only; omega, HR.out.1, hsm⟩
  have KA5 := Lib.hid ((KW1.out.trans (HB2.out.mono KW1.out.size)).trans (KW5.out.mono (by have := HB2.out.size; have := HZ1.out; omega)))
  have hes : ES C w5 (usO []) [] (.slice none 0 0) F := by
    have h1 := HZ1.out
    have h2 := HB2.out.size
    have h5 := HZ5.out
    subst hCe
    refine ⟨⟨(HB1.out.1.on HB2.out).on KW5.out, (HB1.out.2.on HB2.out).on KW5.out, H5.out.1, H5.out.2.2, by rw [usO_nil]; exact HSR.out.on KW5.out, HR.out.2.trans (KA5.out.mono HR.out.2.size), by simp only; omega⟩, H5.out.2.1, World.ownsRow_nil _ _ _ _, fun b hb => ?_⟩
    have h6 := HF.out b hb
    have h7 := KA5.out.size
    exact ⟨h6.1, .inl h6.2, (fun e => by cases e), by omega⟩
  have hvis : Visitor C lim V := ⟨fun seen F w1 w2 S h k hs => HV.out.1 seen F w1 w2 S h k (by subst hCe; exact hs)⟩
  have hv5 : V [] F w5 := HV.out.1 [] F w w5 (fun _ => False) HV.out.2.2 (Kept.of KA5.out) fun _ q => q.elim
  have hcall := extCount_any C hok lim V hvis pn pl (by rw [hCe]) (by subst hCe; exact HV.out.2.1) (t.length + 1) [] (.slice none 0 0) F [] w5 (by subst hCe; simp) (by simp) (fun x hx => by cases hx) (by rw [usO_nil, remL_no]; simp) hes hv5 hlim
  have HPOST : Hid (∀ e w', ExtPost C lim V [] (.slice none 0 0) F [] w5 e w' → ∃ b : Bool, e = .returned (.bool b) ∧ ∃ F', V ((linsI t).take lim) F' w' ∧ Kept F w w' ∧ ∀ b, F' b → F b ∨ w.heap.size ≤ b) := Lib.hid (by
    rintro e w' ⟨rfl, ov', F', es', v', k', f', o'⟩
    have h1 := HZ1.out
    have h2 := HB2.out.size
    have h5 := HZ5.out
    have hge := HSR.out.ge
    subst hCe
    refine ⟨_, rfl, F', ?_, (Kept.of KA5.out).trans2 k' fun b hb => ?_, fun b hb => ?_⟩
    · simpa [usO_nil, linsI] using v'
    · rcases hb with e | e | e | e | e
      · exact .inr (by simp only at e; omega)
      · exact .inr (by simp only at e; omega)
      · exact .inr (by simp only at e; omega)
      · cases e
      · exact .inl e
    · rcases f' b hb with e | e
      · exact .inl e
      · exact .inr (by omega))
  have q6 : w5.cell? ⟨w2.heap.size + 1 + 1, 0, none⟩ = some (.func (.func 58) #[] #[.pointer (some ⟨w2.heap.size + 1, 0, none⟩), .pointer (some ⟨w.heap.size, 0, none⟩), .pointer (some ⟨w.heap.size + 1, 0, none⟩), .pointer (some ⟨w2.heap.size, 0, none⟩), .pointer (some ⟨w2.heap.size + 1 + 1, 0, none⟩)]) := H5.out.2.2.cell 0
  subst hCe
  have HCALL := Lib.hid hcall
  clear hcall hok hes hvis hv5
  go_wp2_with fail
  refine HCALL.out.mono ?_
  intro e w6 hp
  obtain ⟨b, rfl, F', hv6, hk6, hf6⟩ := HPOST.out e w6 hp
  have HX := Lib.hid (And.intro hv6 (And.intro hk6 hf6))
  clear hp hv6 hk6 hf6 HCALL HPOST q6
  go_wp2
  refine bodyPost_end (results_none rfl _ _ _) rfl ?_
  exact ⟨rfl, F', HX.out⟩
end Go.Proofs.Ytfdicndmebhmdaa
