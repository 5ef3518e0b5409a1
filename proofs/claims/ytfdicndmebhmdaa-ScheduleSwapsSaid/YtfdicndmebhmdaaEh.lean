/-
  Chapter 29: ready.
-/
import Derived.Test.YtfdicndmebhmdaaEg
namespace Go.Proofs.Ytfdicndmebhmdaa
open Go.RowKit

def rdyK (t : List Ev) (us : Nat → Bool) (k : Nat) : List Nat := (List.range k).filter (rdyB t us)
theorem rdyK_all (t : List Ev) (us : Nat → Bool) : rdyK t us t.length = rdyL t us := rfl
theorem rdyK_yes {t : List Ev} {us : Nat → Bool} {k : Nat} (h : rdyB t us k = true) : rdyK t us (k + 1) = rdyK t us k ++ [k] := by
  unfold rdyK
  rw [List.range_succ, List.filter_append]
  simp [h]
theorem rdyK_no {t : List Ev} {us : Nat → Bool} {k : Nat} (h : rdyB t us k = false) : rdyK t us (k + 1) = rdyK t us k := by
  unfold rdyK
  rw [List.range_succ, List.filter_append]
  simp [h]
theorem rdyK_len (t : List Ev) (us : Nat → Bool) (k : Nat) : (rdyK t us k).length ≤ k := Nat.le_trans (List.length_filter_le _ _) (by simp)
theorem append_nv {ops : Array Oper} {rest : List Oper} {o : Oper} {a : Act} {w : World} {Q : Exit → Act → World → Prop} (hgd : o.guard = none) (s x : Operand)
    (ho : o.op = .call { callee := .builtin .append, args := #[s, x], argTypes := #[25, 25] })
    (base : Nat) (v : Value) (l : List Nat) (g k : Nat) (hs : a.eval s = v) (hown : w.ownsRow base 3 1 v l.length (l.map nv)) (hx : a.eval x = .slice (some ⟨g, 0, none⟩) 1 1) (hB : Blk w g 3 #[nv k]) (hlen : l.length ≤ 100000) (hbase : base ≤ w.heap.size)
    (h : ∀ v' w', w'.ownsRow base 3 1 v' (l ++ [k]).length ((l ++ [k]).map nv) → w.grownBy w' v.ownBlock → wpList Try.prog ops Q rest (a.put o.dst v') w') : wpList Try.prog ops Q (o :: rest) a w := by
  obtain ⟨i0, hinf, hz0, hz1, hz2⟩ := info_parts Try.infoInt1
  refine wpList_append_own w hgd s x 25 ho base 3 i0 (.int .i64 0) 1 8 Try.underlying25 hinf hz0 hz1 hz2 rfl (by decide) v l.length (l.map nv) hs hown ⟨g, 0, none⟩ 1 1 [nv k] hx rfl ?_ ?_ (by unfold maxLen; omega) (by omega) hbase ?_
  · intro j u hu
    have h2 : (#[nv k] : Array Value)[j]? = some u := by simpa using hu
    rw [← h2, ← hB.cell j]
    by_cases h0 : j = 0 <;> simp [Addr.add, h0]
  · intro u hu
    rw [List.mem_singleton.1 hu]; rfl
  · intro v' w' h1 h2 _
    exact h v' w' (by rw [List.length_append, List.map_append]; exact h1) h2

def RdyMade (w : World) (t : List Ev) (us : Nat → Bool) (e : Ending) (w' : World) : Prop := ∃ v, e = .returned v ∧ Reads nv w' v (rdyS t us) ∧ (∀ b, v.ownBlock = some b → w.heap.size ≤ b) ∧ Below w.heap.size w w'
set_option maxRecDepth 100000 in
set_option maxHeartbeats 4000000 in
theorem ready_any (M0 N0 gs gw gn gu : Nat) (tv : Value) (t : List Ev) (us : Nat → Bool) (W0 w : World) (h : Srch M0 N0 w gs gw gn gu tv t us) (hr : ReadsE W0 tv t) (hb : Below W0.heap.size W0 w) (hn : t.length ≤ 1000) :
    Calls Try.prog 34 #[.pointer (some ⟨gs, 0, none⟩)] w (RdyMade w t us) := by
  have HS := Lib.hid h
  have HR := Lib.hid (And.intro hr hb)
  obtain ⟨ao, cap, rfl, hl, hm, -, -⟩ := hr
  unfold maxLen at hm
  clear h hb
  go_enter Try.func34, Try.ntmps34
  go_upto_region 1 with fail
  have HP0 : Hid (Blk (w.alloc (.cells #[.pointer (some ⟨gs, 0, none⟩)] 47)) w.heap.size 47 #[.pointer (some ⟨gs, 0, none⟩)] ∧ Below w.heap.size w (w.alloc (.cells #[.pointer (some ⟨gs, 0, none⟩)] 47))) := Lib.hid ⟨Blk.new _ _ _, (Below.refl _ _).alloc (Nat.le_refl _) _⟩
  generalize hw1 : World.alloc w _ = w1 at *
  have HZ : Hid (w1.heap.size = w.heap.size + 1) := Lib.hid (by rw [← hw1]; simp)
  clear hw1
  have q0 : w1.cell? ⟨w.heap.size, 0, none⟩ = some (.pointer (some ⟨gs, 0, none⟩)) := HP0.out.1.cell 0
  have q1 : w1.cell? ⟨gs, 0, none⟩ = some (.slice ao t.length cap) := (HS.out.on HP0.out.2).bs.cell 0
  go_wp2
  clear q0 q1
  go_loopg [3, 4, 10] t.length (fun m o _ idx wr => ∃ k : Nat, m + k = t.length ∧ idx = .int .i64 k ∧ wr.ownsRow (w.heap.size + 1) 3 1 o (rdyK t us k).length ((rdyK t us k).map nv) ∧ Below (w.heap.size + 1) w1 wr)
  case atStart => exact ⟨0, by omega, rfl, World.ownsRow_nil _ _ _ _, Below.refl _ _⟩
  case round =>
    obtain ⟨k, hmk, rfl, hrow, hbel⟩ := hrel
    have HM := Lib.hid hmk
    have HROW := Lib.hid hrow
    have HB := Lib.hid hbel
    have HBW := Lib.hid (HP0.out.2.trans (hbel.mono (by omega)))
    have HSW := Lib.hid (HS.out.on HBW.out)
    have hk : k ≤ t.length := by omega
    clear hmk hrow hbel
    have q0 : wr.cell? ⟨w.heap.size, 0, none⟩ = some (.pointer (some ⟨gs, 0, none⟩)) := (HB.out.cell (p := ⟨w.heap.size, 0, none⟩) (by show w.heap.size < w.heap.size + 1; omega)).trans (HP0.out.1.cell 0)
    by_cases hlt : k < t.length
    · have hki : (k : Int) < t.length := by omega
      have hk0 : (0 : Int) ≤ (k : Int) := by omega
      have HK := Lib.hid (And.intro hlt trivial)
      have q1 : wr.cell? ⟨gs, 1, none⟩ = some (.slice (some ⟨gw, 0, none⟩) t.length t.length) := HSW.out.bs.cell 1
      have q3 : wr.cell? ⟨gs, 3, none⟩ = some (.slice (some ⟨gu, 0, none⟩) t.length t.length) := HSW.out.bs.cell 3
      have cu := (HSW.out.bu.cell k).trans (rowF_get hlt)
      have cw := (HSW.out.bw.cell k).trans (rowF_get hlt)
      have HRB : Hid (rdyB t us k = (!us k && (wtE t us k == 0))) := Lib.hid rfl
      have hw := wt_le t us k
      have HYN := Lib.hid (And.intro (@rdyK_yes t us k) (@rdyK_no t us k))
      have HLEN := Lib.hid (rdyK_len t us k)
      generalize wtE t us k = x at *
      generalize us k = u at *
      clear hlt
      cases u with
      | true =>
        have HN := Lib.hid (HYN.out.2 (by rw [HRB.out]; rfl))
        clear HYN HRB
        go_wp2
        go_roundg (t.length - (k + 1))
        case measure => have := HM.out; omega
        case rel => exact ⟨k + 1, by have := HM.out; have := HK.out.1; omega, by go_num, by rw [HN.out]; exact HROW.out, HB.out⟩
      | false =>
        by_cases hx : x = 0
        · subst hx
          have HN := Lib.hid (HYN.out.1 (by rw [HRB.out]; rfl))
          clear HYN HRB
          generalize hl : rdyK t us k = l at *
          have HL := Lib.hid hl
          clear hl
          have hll : l.length ≤ 1000 := by have := HLEN.out; omega
          obtain ⟨oa, oc, rfl⟩ := row_slc HROW.out
          go_wp2_with (at_builtin; refine append_nv rfl _ _ rfl (w.heap.size + 1) (.slice oa l.length oc) l wr.heap.size k rfl (HROW.out.alloc _) rfl (Blk.new _ _ _) (by omega) (by have := HB.out.size; have := HZ.out; simp; omega) ?_)
          intro v' w' h1 h2
          have HR1 := Lib.hid h1
          have HB1 := Lib.hid ((HB.out.alloc (by have := HB.out.size; have := HZ.out; omega) _).grown h2 (by simp; have := HB.out.size; have := HZ.out; omega) (fun j hj => by have := (HROW.out.lt j hj).1; omega))
          clear h1 h2
          go_wp2
          go_roundg (t.length - (k + 1))
          case measure => have := HM.out; omega
          case rel => exact ⟨k + 1, by have := HM.out; have := HK.out.1; omega, by go_num, by rw [HN.out, List.length_append, List.map_append]; exact HR1.out, HB1.out⟩
        · have HN := Lib.hid (HYN.out.2 (by rw [HRB.out, beq_eq_false_iff_ne.2 hx]; rfl))
          have hx' : ((x : Int) == 0) = false := beq_f (by omega)
          clear HYN HRB
          go_wp2
          go_roundg (t.length - (k + 1))
          case measure => have := HM.out; omega
          case rel => exact ⟨k + 1, by have := HM.out; have := HK.out.1; omega, by go_num, by rw [HN.out]; exact HROW.out, HB.out⟩
    · have e : k = t.length := by omega
      subst e
      have hrow := HROW.out
      rw [rdyK_all] at hrow
      have hgs := HS.out.bs.lt
      have HSORT := Lib.hid (rdysort_any (w.heap.size + 1) w.heap.size gs (.slice ao t.length cap) _ t us w wr hrow q0 (Nat.lt_succ_self _) (HSW.out.bs.cell 0) (by omega) (HR.out.1.on HR.out.2) HBW.out (Nat.le_succ _) (by have := HB.out.size; have := HZ.out; omega) hn)
      have HOB := Lib.hid hrow
      obtain ⟨xa, xc, hxv⟩ := row_slc hrow
      subst hxv
      clear hrow hgs HROW
      go_wp2_with fail
      refine HSORT.out.mono ?_
      rintro e w5 ⟨rfl, hrd, hb5⟩
      have HRD := Lib.hid hrd
      have HB5 := Lib.hid (HBW.out.trans (hb5.mono (Nat.le_succ _)))
      clear hrd hb5 HSORT
      go_wp2
      go_ret
      exact ⟨_, rfl, HRD.out, fun b hb => by have := (HOB.out.lt b hb).1; omega, HB5.out⟩
end Go.Proofs.Ytfdicndmebhmdaa
