/-
  Chapter 29: the state of extend between its steps.
-/
import Derived.Test.YtfdicndmebhmdaaFa
namespace Go.Proofs.Ytfdicndmebhmdaa
open Go.RowKit

theorem Kept.trans2 {S S2 : Nat → Prop} {w w' w'' : World} (h : Kept S w w') (k : Kept S2 w' w'') (hs : ∀ b, S2 b → S b ∨ w.heap.size ≤ b) : Kept S w w'' :=
  ⟨k.os.trans h.os, k.tape.trans h.tape, k.output.trans h.output, Nat.le_trans h.size k.size, fun i hi hn => (k.block i (Nat.lt_of_lt_of_le hi h.size) fun q => (hs i q).elim hn fun q => by omega).trans (h.block i hi hn)⟩
/-- Between two steps of extend, called in w with the order o (in ov) and the visitor's blocks F; lv: what ready gave. -/
structure ExM (C : Ctx) (V : List (List Nat) → (Nat → Prop) → World → Prop) (o : List Nat) (ov : Value) (F : Nat → Prop) (w : World) (lv : Value) (us : Nat → Bool) (om : List Nat) (ovm : Value) (Fm : Nat → Prop) (wm : World) (seen : List (List Nat)) : Prop where
  es : ES C wm us om ovm Fm
  v : V seen Fm wm
  rd : Reads nv wm lv (rdyS C.t (usO o))
  sep : ∀ b, lv.ownBlock = some b → w.heap.size ≤ b ∧ ¬ Fm b ∧ some b ≠ ovm.ownBlock ∧ b < wm.heap.size
  w0 : C.N1 ≤ w.heap.size
  kp : Kept (ChE C ov F) w wm
  fq : ∀ b, Fm b → F b ∨ w.heap.size ≤ b
  oq : ∀ b, ovm.ownBlock = some b → ov.ownBlock = some b ∨ w.heap.size ≤ b
section
variable {C : Ctx} {lim : Nat} {V : List (List Nat) → (Nat → Prop) → World → Prop} {o om : List Nat} {ov ovm lv : Value} {F Fm : Nat → Prop} {w wm w' : World} {us us' : Nat → Bool} {seen : List (List Nat)}
theorem ExM.place (hC : C.Ok) (hV : Visitor C lim V) (h : ExM C V o ov F w lv us om ovm Fm wm seen) (hs : Srch C.M0 C.N0 w' C.gs C.gw C.gn C.gu C.tv C.t us') (hk : Kept (PlS C.gw C.gu) wm w') : ExM C V o ov F w lv us' om ovm Fm w' seen := by
  have c1 := hC.h1
  have c2 := hC.h2
  have c3 := hC.h3
  have c4 := hC.h4
  have c5 := hC.h5
  have hg := h.es.eb.sr.ge
  have hl := h.es.eb.sr.lt
  have h0 := h.w0
  refine ⟨h.es.placed hC hs hk, hV.keep _ _ _ _ _ h.v hk fun b hb => ?_, hk.reads h.rd fun b hb => ?_, fun b hb => ?_, h.w0, h.kp.trans (hk.mono fun b _ hb => ?_), h.fq, h.oq⟩
  · have hf := h.es.fr b
    rcases hb with e | e
    · exact ⟨by omega, fun q => by have := (hf q).2.1; omega⟩
    · exact ⟨by omega, fun q => by have := (hf q).2.1; omega⟩
  · have := h.sep b hb
    rintro (e | e) <;> omega
  · obtain ⟨a1, a2, a3, a4⟩ := h.sep b hb
    exact ⟨a1, a2, a3, Nat.lt_of_lt_of_le a4 hk.size⟩
  · rcases hb with e | e
    · exact .inl e
    · exact .inr (.inl e)
theorem ExM.below (hC : C.Ok) (hV : Visitor C lim V) (h : ExM C V o ov F w lv us om ovm Fm wm seen) (hb : Below wm.heap.size wm w') : ExM C V o ov F w lv us om ovm Fm w' seen :=
  ⟨h.es.on hC hb, hV.keep _ _ _ _ _ h.v (Kept.of (S := fun _ => False) hb) fun _ q => q.elim, h.rd.keep hb, fun b hb' => by
    obtain ⟨a1, a2, a3, a4⟩ := h.sep b hb'
    exact ⟨a1, a2, a3, Nat.lt_of_lt_of_le a4 hb.size⟩, h.w0, h.kp.trans (Kept.of hb), h.fq, h.oq⟩
/-- The order's variable gets a row that has one event more. -/
theorem ExM.push (hC : C.Ok) (hV : Visitor C lim V) (h : ExM C V o ov F w lv us om ovm Fm wm seen) {i : Nat} {v' : Value} (hr : w'.ownsRow C.N1 3 1 v' (om ++ [i]).length ((om ++ [i]).map nv)) (hg : wm.grownBy w' ovm.ownBlock) (hv : v'.ownBlock = ovm.ownBlock ∨ v'.ownBlock = some wm.heap.size) :
    ExM C V o ov F w lv us (om ++ [i]) v' Fm (w'.setCell ⟨C.po, 0, none⟩ v') seen ∧ Blk w' C.po 25 #[ovm] := by
  have c0 := hC.h0
  have c1 := hC.h1
  have c2 := hC.h2
  have c3 := hC.h3
  have c4 := hC.h4
  have c5 := hC.h5
  have h0 := h.w0
  have hsz := h.es.eb.sz
  have hk1 : Kept (fun b => some b = ovm.ownBlock) wm w' := Kept.ofG hg fun k hk => hk
  have hk2 : Kept (fun b => b = C.po) w' (w'.setCell ⟨C.po, 0, none⟩ v') := Kept.set _ rfl
  have hrow : ∀ b, some b = ovm.ownBlock → C.N1 ≤ b ∧ b < wm.heap.size := fun b hb => h.es.row.lt b hb.symm
  have hpo : Blk w' C.po 25 #[ovm] := hk1.blk h.es.bo fun e => by have := (hrow _ e).1; omega
  have heb : EB C w' us := h.es.eb.kept hC hk1 (fun b hb => by have := hrow b hb; omega) h.es.bo
  have hvo : ∀ b, b < wm.heap.size → some b ≠ ovm.ownBlock → some b ≠ v'.ownBlock := fun b h1 h2 e => by
    rcases hv with e1 | e1
    · exact h2 (e.trans e1)
    · rw [e1] at e; injection e with e; omega
  have hs2 : (w'.setCell ⟨C.po, 0, none⟩ v').heap.size = w'.heap.size := by simp [World.setCell]
  refine ⟨⟨ES.store hC heb hpo hr fun b hb => ?_, hV.keep _ _ _ _ _ (hV.keep _ _ _ _ _ h.v hk1 fun b hb => ?_) hk2 fun b hb => ?_, hk2.reads (hk1.reads h.rd fun b hb => ?_) fun b hb => ?_, fun b hb => ?_, h.w0, ?_, h.fq, fun b hb => ?_⟩, hpo⟩
  · obtain ⟨a1, a2, a3, a4⟩ := h.es.fr b hb
    exact ⟨a1, a2, hvo b a4 a3, Nat.lt_of_lt_of_le a4 hg.size⟩
  · exact ⟨by have := hrow b hb; omega, fun q => (h.es.fr b q).2.2.1 hb⟩
  · refine ⟨by omega, fun q => ?_⟩
    have := (h.es.fr b q).2.1
    omega
  · exact fun q => (h.sep b hb).2.2.1 q
  · have := (h.sep b hb).1
    omega
  · obtain ⟨a1, a2, a3, a4⟩ := h.sep b hb
    exact ⟨a1, a2, hvo b a4 a3, by rw [hs2]; exact Nat.lt_of_lt_of_le a4 hg.size⟩
  · refine (h.kp.trans2 hk1 fun b hb => ?_).trans2 hk2 fun b hb => .inl (.inr (.inr (.inl hb)))
    rcases h.oq b hb.symm with e | e
    · exact .inl (.inr (.inr (.inr (.inl e.symm))))
    · exact .inr e
  · rcases hv with e1 | e1
    · exact h.oq b (e1 ▸ hb)
    · rw [e1] at hb
      injection hb with hb
      have := h.kp.size
      exact .inr (by omega)
/-- The order's variable gets back the row without its last event. -/
theorem ExM.pop (hC : C.Ok) (hV : Visitor C lim V) {i : Nat} {a : Option Addr} {c : Nat} (h : ExM C V o ov F w lv us (om ++ [i]) (.slice a (om.length + 1) c) Fm wm seen) : ExM C V o ov F w lv us om (.slice a om.length c) Fm (wm.setCell ⟨C.po, 0, none⟩ (.slice a om.length c)) seen := by
  have c0 := hC.h0
  have c1 := hC.h1
  have c2 := hC.h2
  have c3 := hC.h3
  have c4 := hC.h4
  have c5 := hC.h5
  have h0 := h.w0
  have hsz := h.es.eb.sz
  have hk2 : Kept (fun b => b = C.po) wm (wm.setCell ⟨C.po, 0, none⟩ (.slice a om.length c)) := Kept.set _ rfl
  have hob : (Value.slice a om.length c).ownBlock = (Value.slice a (om.length + 1) c).ownBlock := by cases a <;> rfl
  have hs2 : (wm.setCell ⟨C.po, 0, none⟩ (.slice a om.length c)).heap.size = wm.heap.size := by simp [World.setCell]
  have hrow := h.es.row
  rw [List.length_append, List.length_singleton] at hrow
  refine ⟨ES.store hC h.es.eb h.es.bo (row_cut hrow) fun b hb => ?_, hV.keep _ _ _ _ _ h.v hk2 fun b hb => ?_, hk2.reads h.rd fun b hb => ?_, fun b hb => ?_, h.w0, h.kp.trans2 hk2 fun b hb => .inl (.inr (.inr (.inl hb))), h.fq, fun b hb => h.oq b (hob ▸ hb)⟩
  · obtain ⟨a1, a2, a3, a4⟩ := h.es.fr b hb
    exact ⟨a1, a2, by rw [hob]; exact a3, a4⟩
  · refine ⟨by omega, fun q => ?_⟩
    have := (h.es.fr b q).2.1
    omega
  · have := (h.sep b hb).1
    omega
  · obtain ⟨a1, a2, a3, a4⟩ := h.sep b hb
    exact ⟨a1, a2, by rw [hob]; exact a3, by rw [hs2]; exact a4⟩
/-- extend has been called. -/
theorem ExM.inner (hC : C.Ok) (h : ExM C V o ov F w lv us om ovm Fm wm seen) {ov4 : Value} {F4 : Nat → Prop} {seen4 : List (List Nat)} (h1 : ES C w' us om ov4 F4) (h2 : V seen4 F4 w') (hk : Kept (ChE C ovm Fm) wm w') (hf : ∀ b, F4 b → Fm b ∨ wm.heap.size ≤ b) (ho : ∀ b, ov4.ownBlock = some b → ovm.ownBlock = some b ∨ wm.heap.size ≤ b) :
    ExM C V o ov F w lv us om ov4 F4 w' seen4 := by
  have c3 := hC.h3
  have c4 := hC.h4
  have c5 := hC.h5
  have h0 := h.w0
  have hl := h.es.eb.sr.lt
  have hsz := h.kp.size
  refine ⟨h1, h2, hk.reads h.rd fun b hb => ?_, fun b hb => ?_, h.w0, h.kp.trans2 hk fun b hb => ?_, fun b hb => ?_, fun b hb => ?_⟩
  · obtain ⟨a1, a2, a3, a4⟩ := h.sep b hb
    rintro (e | e | e | e | e)
    · omega
    · omega
    · omega
    · exact a3 e
    · exact a2 e
  · obtain ⟨a1, a2, a3, a4⟩ := h.sep b hb
    refine ⟨a1, fun q => ?_, fun q => ?_, Nat.lt_of_lt_of_le a4 hk.size⟩
    · rcases hf b q with e | e
      · exact a2 e
      · omega
    · rcases ho b q.symm with e | e
      · exact a3 e.symm
      · omega
  · rcases hb with e | e | e | e | e
    · exact .inl (.inl e)
    · exact .inl (.inr (.inl e))
    · exact .inl (.inr (.inr (.inl e)))
    · rcases h.oq b e.symm with e | e
      · exact .inl (.inr (.inr (.inr (.inl e.symm))))
      · exact .inr e
    · rcases h.fq b e with e | e
      · exact .inl (.inr (.inr (.inr (.inr e))))
      · exact .inr e
  · rcases hf b hb with e | e
    · exact h.fq b e
    · exact .inr (by omega)
  · rcases ho b hb with e | e
    · exact h.oq b e
    · exact .inr (by omega)
end
theorem remU {t : List Ev} {o : List Nat} {n : Nat} (h : (remL t (usO o)).length = n + 1) : rdyS t (usO o) ≠ [] := by
  obtain ⟨i, hi⟩ := List.exists_mem_of_length_pos (l := remL t (usO o)) (by omega)
  exact rdy_some ⟨i, mem_remL.1 hi⟩
theorem take_app {α : Type} (seen A B : List α) (lim : Nat) (h : seen.length + A.length < lim) : (seen ++ A) ++ B.take (lim - (seen ++ A).length) = seen ++ (A ++ B).take (lim - seen.length) := by
  rw [List.append_assoc, List.take_append, List.take_of_length_le (l := A) (by omega), List.length_append, show lim - (seen.length + A.length) = lim - seen.length - A.length by omega]
theorem usO_out {o : List Nat} {i : Nat} (h : usO o i = false) : i ∉ o := of_decide_eq_false h
theorem usO_in (o : List Nat) (i : Nat) : usO (o ++ [i]) i = true := decide_eq_true (by simp)
theorem row_cap {w : World} {B s n c : Nat} {e : TypeId} {a : Option Addr} {xs : List Value} (h : w.ownsRow B e s (.slice a n c) n xs) : n ≤ c ∧ c ≤ maxLen := by
  rcases h.2 with ⟨h1, h0⟩ | ⟨g, cap, cur, h1, _, _, h2, h3, _⟩
  · injection h1 with _ _ e3
    subst e3
    exact ⟨by omega, by unfold maxLen; omega⟩
  · injection h1 with _ _ e3
    subst e3
    exact ⟨h2, h3⟩
theorem linsQ_pre (t : List Ev) (n : Nat) (us : Nat → Bool) (q : Nat) : ∃ R, linsGo t (n + 1) us = linsQ t n us q ++ R := by
  refine ⟨((rdyS t us).drop q).flatMap fun i => (linsGo t n (setU us i true)).map (i :: ·), ?_⟩
  unfold linsQ
  rw [← List.flatMap_append, List.take_append_drop]; rfl
theorem map_push (o : List Nat) (i : Nat) (X : List (List Nat)) : X.map ((o ++ [i]) ++ ·) = (X.map (i :: ·)).map (o ++ ·) := by
  rw [List.map_map]
  refine List.map_congr_left fun x _ => ?_
  simp
/-- The inner call said: go on. -/
theorem ext_true {t : List Ev} {n lim q : Nat} {o : List Nat} {seen : List (List Nat)} (hq : q < (rdyS t (usO o)).length) (hb : (seen ++ (linsQ t n (usO o) q).map (o ++ ·)).length + (linsGo t n (usO (o ++ [(rdyS t (usO o))[q]]))).length < lim) :
    (seen ++ (linsQ t n (usO o) q).map (o ++ ·)) ++ ((linsGo t n (usO (o ++ [(rdyS t (usO o))[q]]))).map ((o ++ [(rdyS t (usO o))[q]]) ++ ·)).take (lim - (seen ++ (linsQ t n (usO o) q).map (o ++ ·)).length) = seen ++ (linsQ t n (usO o) (q + 1)).map (o ++ ·) ∧ seen.length + (linsQ t n (usO o) (q + 1)).length < lim := by
  rw [linsQ_succ hq, List.map_append, map_push, usO_snoc]
  rw [List.length_append, List.length_map] at hb
  rw [List.take_of_length_le (by simp only [List.length_map, List.length_append]; omega), List.append_assoc]
  refine ⟨rfl, ?_⟩
  simp only [List.length_append, List.length_map]; omega
/-- The inner call said: stop. -/
theorem ext_false {t : List Ev} {n lim q : Nat} {o : List Nat} {seen : List (List Nat)} (hq : q < (rdyS t (usO o)).length) (hlt : seen.length + (linsQ t n (usO o) q).length < lim) (hb : ¬ (seen ++ (linsQ t n (usO o) q).map (o ++ ·)).length + (linsGo t n (usO (o ++ [(rdyS t (usO o))[q]]))).length < lim) :
    (seen ++ (linsQ t n (usO o) q).map (o ++ ·)) ++ ((linsGo t n (usO (o ++ [(rdyS t (usO o))[q]]))).map ((o ++ [(rdyS t (usO o))[q]]) ++ ·)).take (lim - (seen ++ (linsQ t n (usO o) q).map (o ++ ·)).length) = seen ++ ((linsGo t (n + 1) (usO o)).map (o ++ ·)).take (lim - seen.length) ∧ ¬ seen.length + (linsGo t (n + 1) (usO o)).length < lim := by
  obtain ⟨R, hR⟩ := linsQ_pre t n (usO o) (q + 1)
  rw [linsQ_succ hq, usO_snoc] at hR
  rw [List.length_append, List.length_map] at hb
  rw [take_app _ _ _ _ (by rw [List.length_map]; exact hlt), map_push]
  constructor
  · congr 1
    rw [hR, List.map_append, List.map_append]
    exact (List.take_append_of_le_length (by simp only [List.length_map, List.length_append]; omega)).symm
  · rw [hR]
    simp only [List.length_map, List.length_append]; omega
end Go.Proofs.Ytfdicndmebhmdaa
