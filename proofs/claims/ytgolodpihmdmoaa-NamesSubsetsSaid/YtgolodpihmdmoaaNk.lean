/-
  Chapter 02: merge, Union, Intersect, Minus.
-/
import Derived.Test.YtgolodpihmdmoaaNi
import Derived.Test.YtgolodpihmdmoaaLs
namespace Go.Proofs.Ytgolodpihmdmoaa
open Go.RowKit Go.Sort

def opt (c : Bool) (x : Str) : List Str := if c then [x] else []

/-- The merge of two lists, with fuel. -/
def mergeF (l b r : Bool) : Nat → List Str → List Str → List Str
  | 0, _, _ => []
  | _ + 1, [], [] => []
  | f + 1, x :: xs, [] => opt l x ++ mergeF l b r f xs []
  | f + 1, [], y :: ys => opt r y ++ mergeF l b r f [] ys
  | f + 1, x :: xs, y :: ys =>
    if x < y then opt l x ++ mergeF l b r f xs (y :: ys)
    else if y < x then opt r y ++ mergeF l b r f (x :: xs) ys
    else opt b x ++ mergeF l b r f xs ys

def mergeL (l b r : Bool) (xs ys : List Str) : List Str := mergeF l b r (xs.length + ys.length + 1) xs ys

theorem mergeF_len (l b r : Bool) : ∀ (f : Nat) (xs ys : List Str), (mergeF l b r f xs ys).length ≤ xs.length + ys.length
  | 0, _, _ => by simp [mergeF]
  | _ + 1, [], [] => by simp [mergeF]
  | f + 1, x :: xs, [] => by
    have := mergeF_len l b r f xs []
    cases l <;> simp [mergeF, opt] at * <;> omega
  | f + 1, [], y :: ys => by
    have := mergeF_len l b r f [] ys
    cases r <;> simp [mergeF, opt] at * <;> omega
  | f + 1, x :: xs, y :: ys => by
    have h1 := mergeF_len l b r f xs (y :: ys)
    have h2 := mergeF_len l b r f (x :: xs) ys
    have h3 := mergeF_len l b r f xs ys
    rw [mergeF]
    split
    · cases l <;> simp [opt] at * <;> omega
    · split
      · cases r <;> simp [opt] at * <;> omega
      · cases b <;> simp [opt] at * <;> omega

theorem mergeF_more (l b r : Bool) : ∀ (f : Nat) (xs ys : List Str), xs.length + ys.length < f → mergeF l b r f xs ys = mergeF l b r (f + 1) xs ys
  | 0, xs, ys, h => by omega
  | _ + 1, [], [], _ => rfl
  | f + 1, x :: xs, [], h => by rw [mergeF, mergeF, mergeF_more l b r f xs [] (by simp at h ⊢; omega)]
  | f + 1, [], y :: ys, h => by rw [mergeF, mergeF, mergeF_more l b r f [] ys (by simp at h ⊢; omega)]
  | f + 1, x :: xs, y :: ys, h => by
    rw [mergeF, mergeF, mergeF_more l b r f xs (y :: ys) (by simp at h ⊢; omega), mergeF_more l b r f (x :: xs) ys (by simp at h ⊢; omega), mergeF_more l b r f xs ys (by simp at h ⊢; omega)]

theorem elem_str : Try.prog.elem 24 = 9 := by kernel_rfl
theorem under_slice : Try.prog.underlying 24 = some (.slice (Try.prog.elem 24)) := by rw [elem_str]; exact Try.underlying24

theorem size_str (w : World) : (sizeOf 9).run Try.prog w = .ok 1 w := Try.sizeOf9 w

/-- A slice that is not empty: its head's cell, and its tail. -/
theorem Reads.cons {w : World} {v : Value} {x : Str} {t : List Str} (h : Reads vs w v (x :: t)) :
    ∃ b off n cap v', v = .slice (some ⟨b, off, none⟩) n cap ∧ n = t.length + 1 ∧ n ≤ 9223372036854775807 ∧ b < w.heap.size ∧ w.cell? ⟨b, off, none⟩ = some (.string (toB x)) ∧
      (∀ wx, (Instr.slice 24 (.slice (some ⟨b, off, none⟩) n cap) (some (.int .i64 1)) none none).run Try.prog wx = .ok v' wx) ∧ Reads vs w v' t := by
  have h' := h
  rcases h.cases with ⟨e, _⟩ | ⟨h0, b, off, cap, rfl, hl, hm, hlt, hc⟩
  · cases e
  · obtain ⟨v', h1, h2⟩ := cut_low under_slice elem_str size_str rfl h' 1 (by omega) (by simp; omega)
    exact ⟨b, off, _, cap, v', rfl, by simp, by unfold maxLen at hm; omega, hlt, hc 0 (by simp), h1, h2⟩

theorem append_keep {w2 wr wd w1 : World} {e : TypeId} {out : List Str} {x : Str} {o : Obj} {v v' : Value} (hown : wr.ownsRow w2.heap.size e 1 v out.length (out.map vs)) (hb : Below w2.heap.size w2 wr)
    (hgr : (wd.alloc o).grownBy w1 v.ownBlock) (hown' : w1.ownsRow w2.heap.size e 1 v' (out.length + 1) (out.map vs ++ [.string (toB x)])) (hd : wd.heap = wr.heap := by rfl) (ht : wd.tape = wr.tape := by rfl) (hos : wd.os = wr.os := by rfl) (hout : wd.output = wr.output := by rfl) :
    w1.ownsRow w2.heap.size e 1 v' (out ++ [x]).length ((out ++ [x]).map vs) ∧ Below w2.heap.size w2 w1 := by
  refine ⟨by rw [List.length_append, List.map_append]; exact hown', ⟨hgr.os.trans (hos.trans hb.os), hgr.tape.trans (ht.trans hb.tape), hgr.output.trans (hout.trans hb.output), ?_, fun k hk => ?_⟩⟩
  · have h1 := hgr.size
    have h2 := hb.size
    simp [hd] at h1; omega
  · have h2 := hb.size
    rw [hgr.block k (by simp [hd]; omega) (fun e => by have := (hown.lt k e.symm).1; omega), Below.heap_alloc _ _ _ (by rw [hd]; omega), hd]
    exact hb.block k hk

def MergeMade (w : World) (out : List Str) (e : Ending) (w' : World) : Prop := ∃ v', e = .returned v' ∧ Reads vs w' v' out ∧ Below w.heap.size w w'

set_option maxHeartbeats 2000000 in
theorem merge_any (v u : Value) (xs ys : List Str) (l b r : Bool) (w : World) (hx : Reads vs w v xs) (hy : Reads vs w u ys) (hn : xs.length ≤ 1000000) (hm : ys.length ≤ 1000000) :
    Calls Try.prog 48 #[v, u, .bool l, .bool b, .bool r] w (MergeMade w (mergeL l b r (ofL xs) (ofL ys))) := by
  obtain ⟨i0, hinf, hz0, hz1, hz2⟩ := info_parts Try.infoStr
  have HI := Lib.hid (And.intro hinf (And.intro hz0 (And.intro hz1 hz2)))
  clear hinf hz0 hz1 hz2
  go_enter Try.func48, Try.ntmps48
  go_wp2_with fail
  refine (of_any v xs _ hx (by omega)).mono ?_
  rintro e w1 ⟨vx, rfl, hown1, hb1⟩
  have H1 := Lib.hid (And.intro hown1 hb1)
  have HY := Lib.hid (hy.keep hb1)
  clear hown1 hb1 hx hy
  go_wp2_with fail
  refine (of_any u ys _ HY.out (by omega)).mono ?_
  rintro e w2 ⟨vy, rfl, hown2, hb2⟩
  have hlx := ofL_length xs
  have hly := ofL_length ys
  have hrx : Reads vs w2 vx (ofL xs) := (Reads.of_owns H1.out.1).keep hb2
  have hry : Reads vs w2 vy (ofL ys) := Reads.of_owns hown2
  have hbb : Below w.heap.size w w2 := H1.out.2.trans (hb2.mono H1.out.2.size)
  clear hown2 hb2
  generalize hX : ofL xs = X at *
  generalize hY : ofL ys = Y at *
  have HR := Lib.hid (And.intro hrx (And.intro hry hbb))
  clear hrx hry hbb hX hY
  go_wp2
  go_loopg [11, 12, 13] (X.length + Y.length + 1) (fun m a c o wr => ∃ (X' Y' out : List Str), X'.length + Y'.length + 1 = m ∧ X'.length ≤ X.length ∧ Y'.length ≤ Y.length ∧ out ++ mergeF l b r m X' Y' = mergeL l b r X Y ∧ out.length + X'.length + Y'.length ≤ X.length + Y.length ∧
    Reads vs w2 a X' ∧ Reads vs w2 c Y' ∧ wr.ownsRow w2.heap.size 9 1 o out.length (out.map vs) ∧ Below w2.heap.size w2 wr)
  case atStart => exact ⟨X, Y, [], rfl, Nat.le_refl _, Nat.le_refl _, rfl, by simp, HR.out.1, HR.out.2.1, World.ownsRow_nil _ _ _ _, Below.refl _ _⟩
  case round =>
    obtain ⟨X', Y', out, hm, hlX, hlY, hF, hol, ha, hc, hown, hbel⟩ := hrel
    subst hm
    have HF := Lib.hid hF
    have HO := Lib.hid (And.intro hown hbel)
    clear hF hown hbel
    cases X' with
    | nil =>
      cases Y' with
      | nil =>
        obtain ⟨ao, ca, rfl, _⟩ := ha
        obtain ⟨ao', ca', rfl, _⟩ := hc
        go_wp2
        go_ret
        have := HF.out
        simp [mergeF] at this
        rw [← this]
        exact ⟨_, rfl, Reads.of_owns HO.out.1, HR.out.2.2.trans (HO.out.2.mono HR.out.2.2.size)⟩
      | cons y Y2 =>
        obtain ⟨ao, ca, rfl, hca1, hca2, hca3, _⟩ := ha
        obtain ⟨b2, o2, n2, c2, v2, rfl, hn2, hm2, hlt2, hcell2, hsl2, ht2⟩ := hc.cons
        have hcell : wr.cell? ⟨b2, o2, none⟩ = some (.string (toB y)) := (HO.out.2.cell hlt2).trans hcell2
        have h2a : ((n2 : Int) == 0) = false := beq_eq_false_iff_ne.2 (by omega)
        have h2b : (0 : Int) < n2 := by omega
        have h2n : 0 < n2 := by omega
        have h2c : decide ((0 : Int) < n2) = true := decide_eq_true h2b
        have HT := Lib.hid (And.intro ht2 hn2)
        clear ht2 hn2 hcell2 hc
        cases r
        · go_wp2
          go_quiet (fail)
          go_wp2
          go_quiet (fail)
          go_wp2
          go_roundg (Y2.length + 1)
          case measure => simp
          case rel => exact ⟨[], Y2, out, by simp, by simp, by simp at hlY; omega, by have := HF.out; simpa [mergeF, opt] using this, by simp at hol; simp; omega, Reads.empty _ _ _ (by assumption) (by assumption), HT.out.1, HO.out.1, HO.out.2.trans (below_drewN _)⟩
        · go_wp2
          go_quiet (fail)
          go_wp2
          go_quiet (fail)
          go_wp2_with (at_builtin; refine wpList_append_own _ rfl _ _ 24 rfl w2.heap.size 9 i0 (.string ⟨#[]⟩) 1 16 Try.underlying24 HI.out.1 HI.out.2.1 HI.out.2.2.1 HI.out.2.2.2 rfl (by decide) _ _ _ rfl (by exact HO.out.1.alloc _) ⟨_, 0, none⟩ 1 1 [.string (toB y)] rfl rfl ?q1 ?q2 ?q3 ?q4 ?q5 ?_)
          case q1 => exact cell_one_new _ _ _
          case q2 => intro u hu; simp at hu; subst hu; rfl
          case q3 => unfold maxLen; omega
          case q4 => omega
          case q5 => have := HO.out.2.size; simp; omega
          intro v3 w3 hown3 hgr3 _
          have H3 := Lib.hid (append_keep HO.out.1 HO.out.2 (by exact hgr3) hown3)
          clear hown3 hgr3
          go_wp2
          go_roundg (Y2.length + 1)
          case measure => simp
          case rel => exact ⟨[], Y2, out ++ [y], by simp, by simp, by simp at hlY; omega, by have := HF.out; simpa [mergeF, opt] using this, by simp at hol; simp; omega, Reads.empty _ _ _ (by assumption) (by assumption), HT.out.1, H3.out.1, H3.out.2⟩
    | cons x X2 =>
      obtain ⟨b1, o1, n1, c1, v1, rfl, hn1, hm1, hlt1, hcell1, hsl1, ht1⟩ := ha.cons
      have hcx : wr.cell? ⟨b1, o1, none⟩ = some (.string (toB x)) := (HO.out.2.cell hlt1).trans hcell1
      have h1a : ((n1 : Int) == 0) = false := beq_eq_false_iff_ne.2 (by omega)
      have h1b : (0 : Int) < n1 := by omega
      have h1n : 0 < n1 := by omega
      have h1c : decide ((0 : Int) < n1) = true := decide_eq_true h1b
      have HX := Lib.hid (And.intro ht1 (And.intro hn1 ha))
      clear ht1 hn1 hcell1 ha
      cases Y' with
      | nil =>
        obtain ⟨ao, ca, rfl, hca1, hca2, hca3, _⟩ := hc
        cases l
        · go_wp2
          go_quiet (fail)
          go_wp2
          go_roundg (X2.length + 1)
          case measure => simp
          case rel => exact ⟨X2, [], out, by simp, by simp at hlX; omega, by simp, by have := HF.out; simpa [mergeF, opt] using this, by simp at hol; simp; omega, HX.out.1, Reads.empty _ _ _ (by assumption) (by assumption), HO.out.1, HO.out.2.trans (below_drewN _)⟩
        · go_wp2
          go_quiet (fail)
          go_wp2_with (at_builtin; refine wpList_append_own _ rfl _ _ 24 rfl w2.heap.size 9 i0 (.string ⟨#[]⟩) 1 16 Try.underlying24 HI.out.1 HI.out.2.1 HI.out.2.2.1 HI.out.2.2.2 rfl (by decide) _ _ _ rfl (by exact HO.out.1.alloc _) ⟨_, 0, none⟩ 1 1 [.string (toB x)] rfl rfl ?q1 ?q2 ?q3 ?q4 ?q5 ?_)
          case q1 => exact cell_one_new _ _ _
          case q2 => intro u hu; simp at hu; subst hu; rfl
          case q3 => unfold maxLen; omega
          case q4 => omega
          case q5 => have := HO.out.2.size; simp; omega
          intro v3 w3 hown3 hgr3 _
          have H3 := Lib.hid (append_keep HO.out.1 HO.out.2 (by exact hgr3) hown3)
          clear hown3 hgr3
          go_wp2
          go_roundg (X2.length + 1)
          case measure => simp
          case rel => exact ⟨X2, [], out ++ [x], by simp, by simp at hlX; omega, by simp, by have := HF.out; simpa [mergeF, opt] using this, by simp at hol; simp; omega, HX.out.1, Reads.empty _ _ _ (by assumption) (by assumption), H3.out.1, H3.out.2⟩
      | cons y Y2 =>
        obtain ⟨b2, o2, n2, c2, v2, rfl, hn2, hm2, hlt2, hcell2, hsl2, ht2⟩ := hc.cons
        have hcy : wr.cell? ⟨b2, o2, none⟩ = some (.string (toB y)) := (HO.out.2.cell hlt2).trans hcell2
        have h2a : ((n2 : Int) == 0) = false := beq_eq_false_iff_ne.2 (by omega)
        have h2b : (0 : Int) < n2 := by omega
        have h2n : 0 < n2 := by omega
        have h2c : decide ((0 : Int) < n2) = true := decide_eq_true h2b
        have HT := Lib.hid (And.intro ht2 (And.intro hn2 hc))
        clear ht2 hn2 hcell2 hc
        by_cases hxy : x < y
        · have hB1 : Op.bytesLess (toB x).toList (toB y).toList = true := by rw [less_toB]; exact decide_eq_true hxy
          have HF2 : Hid (out ++ (opt l x ++ mergeF l b r (X2.length + Y2.length + 2) X2 (y :: Y2)) = mergeL l b r X Y) := by
            have := HF.out
            rw [mergeF, if_pos hxy, show (x :: X2).length + (y :: Y2).length = X2.length + Y2.length + 2 by simp; omega] at this
            exact this
          clear hxy
          cases l
          · go_wp2
            go_quiet (fail)
            go_wp2
            go_roundg (X2.length + Y2.length + 2)
            case measure => simp; omega
            case rel => exact ⟨X2, y :: Y2, out, by simp; omega, by simp at hlX; omega, hlY, HF2.out, by simp at hol; simp; omega, HX.out.1, HT.out.2.2, HO.out.1, HO.out.2.trans (below_drewN _)⟩
          · go_wp2
            go_quiet (fail)
            go_wp2_with (at_builtin; refine wpList_append_own _ rfl _ _ 24 rfl w2.heap.size 9 i0 (.string ⟨#[]⟩) 1 16 Try.underlying24 HI.out.1 HI.out.2.1 HI.out.2.2.1 HI.out.2.2.2 rfl (by decide) _ _ _ rfl (by exact HO.out.1.alloc _) ⟨_, 0, none⟩ 1 1 [.string (toB x)] rfl rfl ?q1 ?q2 ?q3 ?q4 ?q5 ?_)
            case q1 => exact cell_one_new _ _ _
            case q2 => intro u hu; simp at hu; subst hu; rfl
            case q3 => unfold maxLen; omega
            case q4 => omega
            case q5 => have := HO.out.2.size; simp; omega
            intro v3 w3 hown3 hgr3 _
            have H3 := Lib.hid (append_keep HO.out.1 HO.out.2 (by exact hgr3) hown3)
            clear hown3 hgr3
            go_wp2
            go_roundg (X2.length + Y2.length + 2)
            case measure => simp; omega
            case rel => exact ⟨X2, y :: Y2, out ++ [x], by simp; omega, by simp at hlX; omega, hlY, by have := HF2.out; simpa [opt] using this, by simp at hol; simp; omega, HX.out.1, HT.out.2.2, H3.out.1, H3.out.2⟩
        · have hB1 : Op.bytesLess (toB x).toList (toB y).toList = false := by rw [less_toB]; exact decide_eq_false hxy
          by_cases hyx : y < x
          · have hB2 : Op.bytesLess (toB y).toList (toB x).toList = true := by rw [less_toB]; exact decide_eq_true hyx
            have HF2 : Hid (out ++ (opt r y ++ mergeF l b r (X2.length + Y2.length + 2) (x :: X2) Y2) = mergeL l b r X Y) := by
              have := HF.out
              rw [mergeF, if_neg hxy, if_pos hyx, show (x :: X2).length + (y :: Y2).length = X2.length + Y2.length + 2 by simp; omega] at this
              exact this
            clear hxy hyx
            cases r
            · go_wp2
              go_quiet (fail)
              go_wp2
              go_quiet (fail)
              go_wp2
              go_roundg (X2.length + Y2.length + 2)
              case measure => simp; omega
              case rel => exact ⟨x :: X2, Y2, out, by simp; omega, hlX, by simp at hlY; omega, HF2.out, by simp at hol; simp; omega, HX.out.2.2, HT.out.1, HO.out.1, HO.out.2.trans (below_drewN _)⟩
            · go_wp2
              go_quiet (fail)
              go_wp2
              go_quiet (fail)
              go_wp2_with (at_builtin; refine wpList_append_own _ rfl _ _ 24 rfl w2.heap.size 9 i0 (.string ⟨#[]⟩) 1 16 Try.underlying24 HI.out.1 HI.out.2.1 HI.out.2.2.1 HI.out.2.2.2 rfl (by decide) _ _ _ rfl (by exact HO.out.1.alloc _) ⟨_, 0, none⟩ 1 1 [.string (toB y)] rfl rfl ?q1 ?q2 ?q3 ?q4 ?q5 ?_)
              case q1 => exact cell_one_new _ _ _
              case q2 => intro u hu; simp at hu; subst hu; rfl
              case q3 => unfold maxLen; omega
              case q4 => omega
              case q5 => have := HO.out.2.size; simp; omega
              intro v3 w3 hown3 hgr3 _
              have H3 := Lib.hid (append_keep HO.out.1 HO.out.2 (by exact hgr3) hown3)
              clear hown3 hgr3
              go_wp2
              go_roundg (X2.length + Y2.length + 2)
              case measure => simp; omega
              case rel => exact ⟨x :: X2, Y2, out ++ [y], by simp; omega, hlX, by simp at hlY; omega, by have := HF2.out; simpa [opt] using this, by simp at hol; simp; omega, HX.out.2.2, HT.out.1, H3.out.1, H3.out.2⟩
          · have hB2 : Op.bytesLess (toB y).toList (toB x).toList = false := by rw [less_toB]; exact decide_eq_false hyx
            have HF2 : Hid (out ++ (opt b x ++ mergeF l b r (X2.length + Y2.length + 2) X2 Y2) = mergeL l b r X Y) := by
              have := HF.out
              rw [mergeF, if_neg hxy, if_neg hyx, show (x :: X2).length + (y :: Y2).length = X2.length + Y2.length + 2 by simp; omega] at this
              exact this
            clear hxy hyx
            cases b
            · go_wp2
              go_quiet (fail)
              go_wp2
              go_quiet (fail)
              go_wp2
              go_quiet (fail)
              go_wp2
              go_roundg (X2.length + Y2.length + 1)
              case measure => simp; omega
              case rel => exact ⟨X2, Y2, out, rfl, by simp at hlX; omega, by simp at hlY; omega, by have := HF2.out; rw [← this]; simp [opt]; exact mergeF_more _ _ _ _ _ _ (by omega), by simp at hol; omega, HX.out.1, HT.out.1, HO.out.1, HO.out.2.trans (below_drewN' (below_drewN' (below_drewN _) _) _)⟩
            · go_wp2
              go_quiet (fail)
              go_wp2
              go_quiet (fail)
              go_wp2_with (at_builtin; refine wpList_append_own _ rfl _ _ 24 rfl w2.heap.size 9 i0 (.string ⟨#[]⟩) 1 16 Try.underlying24 HI.out.1 HI.out.2.1 HI.out.2.2.1 HI.out.2.2.2 rfl (by decide) _ _ _ rfl (by exact HO.out.1.alloc _) ⟨_, 0, none⟩ 1 1 [.string (toB x)] rfl rfl ?q1 ?q2 ?q3 ?q4 ?q5 ?_)
              case q1 => exact cell_one_new _ _ _
              case q2 => intro u hu; simp at hu; subst hu; rfl
              case q3 => unfold maxLen; omega
              case q4 => omega
              case q5 => have := HO.out.2.size; simp; omega
              intro v3 w3 hown3 hgr3 _
              have H3 := Lib.hid (append_keep HO.out.1 HO.out.2 (by exact hgr3) hown3)
              clear hown3 hgr3
              go_wp2
              go_quiet (fail)
              go_wp2
              go_roundg (X2.length + Y2.length + 1)
              case measure => simp; omega
              case rel => exact ⟨X2, Y2, out ++ [x], rfl, by simp at hlX; omega, by simp at hlY; omega, by have := HF2.out; rw [← this]; simp [opt]; exact mergeF_more _ _ _ _ _ _ (by omega), by simp at hol; simp; omega, HX.out.1, HT.out.1, H3.out.1, H3.out.2.trans (below_drewN _)⟩

theorem union_any (v u : Value) (xs ys : List Str) (w : World) (hx : Reads vs w v xs) (hy : Reads vs w u ys) (hn : xs.length ≤ 1000000) (hm : ys.length ≤ 1000000) :
    Calls Try.prog 25 #[v, u] w (MergeMade w (mergeL true true true (ofL xs) (ofL ys))) := by
  go_enter Try.func25, Try.ntmps25
  go_wp2_with fail
  refine (merge_any v u xs ys true true true _ hx hy hn hm).mono ?_
  rintro e w1 ⟨vx, rfl, hr, hb⟩
  have H := Lib.hid (And.intro hr hb)
  clear hr hb hx hy
  go_wp2
  go_ret
  exact ⟨_, rfl, H.out.1, H.out.2⟩

theorem intersect_any (v u : Value) (xs ys : List Str) (w : World) (hx : Reads vs w v xs) (hy : Reads vs w u ys) (hn : xs.length ≤ 1000000) (hm : ys.length ≤ 1000000) :
    Calls Try.prog 24 #[v, u] w (MergeMade w (mergeL false true false (ofL xs) (ofL ys))) := by
  go_enter Try.func24, Try.ntmps24
  go_wp2_with fail
  refine (merge_any v u xs ys false true false _ hx hy hn hm).mono ?_
  rintro e w1 ⟨vx, rfl, hr, hb⟩
  have H := Lib.hid (And.intro hr hb)
  clear hr hb hx hy
  go_wp2
  go_ret
  exact ⟨_, rfl, H.out.1, H.out.2⟩

theorem minus_any (v u : Value) (xs ys : List Str) (w : World) (hx : Reads vs w v xs) (hy : Reads vs w u ys) (hn : xs.length ≤ 1000000) (hm : ys.length ≤ 1000000) :
    Calls Try.prog 26 #[v, u] w (MergeMade w (mergeL true false false (ofL xs) (ofL ys))) := by
  go_enter Try.func26, Try.ntmps26
  go_wp2_with fail
  refine (merge_any v u xs ys true false false _ hx hy hn hm).mono ?_
  rintro e w1 ⟨vx, rfl, hr, hb⟩
  have H := Lib.hid (And.intro hr hb)
  clear hr hb hx hy
  go_wp2
  go_ret
  exact ⟨_, rfl, H.out.1, H.out.2⟩

/-! The plain law of the merge. -/
theorem mem_opt (c : Bool) (x s : Str) : s ∈ opt c x ↔ c = true ∧ s = x := by cases c <;> simp [opt]

theorem mergeF_spec (l b r : Bool) : ∀ (f : Nat) (xs ys : List Str), xs.length + ys.length < f → xs.Pairwise (· < ·) → ys.Pairwise (· < ·) →
    (∀ s, s ∈ mergeF l b r f xs ys ↔ (s ∈ xs ∧ s ∉ ys ∧ l = true) ∨ (s ∈ xs ∧ s ∈ ys ∧ b = true) ∨ (s ∉ xs ∧ s ∈ ys ∧ r = true)) ∧ (mergeF l b r f xs ys).Pairwise (· < ·)
  | 0, xs, ys, h, _, _ => by omega
  | _ + 1, [], [], _, _, _ => by simp [mergeF]
  | f + 1, x :: xs, [], h, hx, hy => by
    rw [List.pairwise_cons] at hx
    obtain ⟨h1, h2⟩ := mergeF_spec l b r f xs [] (by simp at h ⊢; omega) hx.2 hy
    rw [mergeF]
    refine ⟨fun s => ?_, ?_⟩
    · rw [List.mem_append, mem_opt, h1]
      simp only [List.mem_cons, List.not_mem_nil, not_false_eq_true, true_and, false_and, and_false, or_false]
      constructor
      · rintro (⟨a, rfl⟩ | ⟨a, c⟩)
        · exact ⟨.inl rfl, a⟩
        · exact ⟨.inr a, c⟩
      · rintro ⟨rfl | a, c⟩
        · exact .inl ⟨c, rfl⟩
        · exact .inr ⟨a, c⟩
    · rw [List.pairwise_append]
      refine ⟨by cases l <;> simp [opt], h2, fun a ha c hc => ?_⟩
      obtain ⟨_, rfl⟩ := (mem_opt l x a).1 ha
      have := (h1 c).1 hc
      simp at this
      exact hx.1 c this.1
  | f + 1, [], y :: ys, h, hx, hy => by
    rw [List.pairwise_cons] at hy
    obtain ⟨h1, h2⟩ := mergeF_spec l b r f [] ys (by simp at h ⊢; omega) hx hy.2
    rw [mergeF]
    refine ⟨fun s => ?_, ?_⟩
    · rw [List.mem_append, mem_opt, h1]
      simp only [List.mem_cons, List.not_mem_nil, not_false_eq_true, true_and, false_and, or_false, false_or]
      constructor
      · rintro (⟨a, rfl⟩ | ⟨a, c⟩)
        · exact ⟨.inl rfl, a⟩
        · exact ⟨.inr a, c⟩
      · rintro ⟨rfl | a, c⟩
        · exact .inl ⟨c, rfl⟩
        · exact .inr ⟨a, c⟩
    · rw [List.pairwise_append]
      refine ⟨by cases r <;> simp [opt], h2, fun a ha c hc => ?_⟩
      obtain ⟨_, rfl⟩ := (mem_opt r y a).1 ha
      have := (h1 c).1 hc
      simp at this
      exact hy.1 c this.1
  | f + 1, x :: xs, y :: ys, h, hx, hy => by
    rw [mergeF]
    have hx' := List.pairwise_cons.1 hx
    have hy' := List.pairwise_cons.1 hy
    by_cases hxy : x < y
    · rw [if_pos hxy]
      obtain ⟨h1, h2⟩ := mergeF_spec l b r f xs (y :: ys) (by simp at h ⊢; omega) hx'.2 hy
      have hny : x ∉ y :: ys := by
        intro hm
        rcases List.mem_cons.1 hm with e | hm
        · exact slt_irrefl _ (e ▸ hxy)
        · exact slt_irrefl _ (slt_trans hxy (hy'.1 x hm))
      have hnx : x ∉ xs := fun hm => slt_irrefl _ (hx'.1 x hm)
      refine ⟨fun s => ?_, ?_⟩
      · rw [List.mem_append, mem_opt, h1]
        by_cases e : s = x
        · subst e; simp [hny, hnx]
        · simp [e]
      · rw [List.pairwise_append]
        refine ⟨by cases l <;> simp [opt], h2, fun a ha c hc => ?_⟩
        obtain ⟨_, rfl⟩ := (mem_opt l x a).1 ha
        have hc' := (h1 c).1 hc
        have : c ∈ xs ∨ c ∈ y :: ys := by
          rcases hc' with h | h | h
          · exact .inl h.1
          · exact .inl h.1
          · exact .inr h.2.1
        rcases this with h | h
        · exact hx'.1 c h
        · rcases List.mem_cons.1 h with e | h
          · exact e ▸ hxy
          · exact slt_trans hxy (hy'.1 c h)
    · rw [if_neg hxy]
      by_cases hyx : y < x
      · rw [if_pos hyx]
        obtain ⟨h1, h2⟩ := mergeF_spec l b r f (x :: xs) ys (by simp at h ⊢; omega) hx hy'.2
        have hnx : y ∉ x :: xs := by
          intro hm
          rcases List.mem_cons.1 hm with e | hm
          · exact slt_irrefl _ (e ▸ hyx)
          · exact slt_irrefl _ (slt_trans hyx (hx'.1 y hm))
        have hny : y ∉ ys := fun hm => slt_irrefl _ (hy'.1 y hm)
        refine ⟨fun s => ?_, ?_⟩
        · rw [List.mem_append, mem_opt, h1]
          by_cases e : s = y
          · subst e; simp [hny, hnx]
          · simp [e]
        · rw [List.pairwise_append]
          refine ⟨by cases r <;> simp [opt], h2, fun a ha c hc => ?_⟩
          obtain ⟨_, rfl⟩ := (mem_opt r y a).1 ha
          have hc' := (h1 c).1 hc
          have : c ∈ x :: xs ∨ c ∈ ys := by
            rcases hc' with h | h | h
            · exact .inl h.1
            · exact .inl h.1
            · exact .inr h.2.1
          rcases this with h | h
          · rcases List.mem_cons.1 h with e | h
            · exact e ▸ hyx
            · exact slt_trans hyx (hx'.1 c h)
          · exact hy'.1 c h
      · rw [if_neg hyx]
        have hE : x = y := (slt_tri x y).elim (fun h => absurd h hxy) (fun h => h.elim id (fun h => absurd h hyx))
        subst hE
        obtain ⟨h1, h2⟩ := mergeF_spec l b r f xs ys (by simp at h ⊢; omega) hx'.2 hy'.2
        have hnx : x ∉ xs := fun hm => slt_irrefl _ (hx'.1 x hm)
        have hny : x ∉ ys := fun hm => slt_irrefl _ (hy'.1 x hm)
        refine ⟨fun s => ?_, ?_⟩
        · rw [List.mem_append, mem_opt, h1]
          by_cases e : s = x
          · subst e; simp [hny, hnx]
          · simp [e]
        · rw [List.pairwise_append]
          refine ⟨by cases b <;> simp [opt], h2, fun a ha c hc => ?_⟩
          obtain ⟨_, rfl⟩ := (mem_opt b x a).1 ha
          have hc' := (h1 c).1 hc
          rcases hc' with h | h | h
          · exact hx'.1 c h.1
          · exact hx'.1 c h.1
          · exact hy'.1 c h.2.1

theorem mergeL_mem (l b r : Bool) (xs ys : List Str) (s : Str) : s ∈ mergeL l b r (ofL xs) (ofL ys) ↔ (s ∈ xs ∧ s ∉ ys ∧ l = true) ∨ (s ∈ xs ∧ s ∈ ys ∧ b = true) ∨ (s ∉ xs ∧ s ∈ ys ∧ r = true) := by
  unfold mergeL
  rw [(mergeF_spec l b r _ _ _ (by omega) (ofL_sorted xs) (ofL_sorted ys)).1 s, mem_ofL, mem_ofL]
theorem mergeL_sorted (l b r : Bool) (xs ys : List Str) : (mergeL l b r (ofL xs) (ofL ys)).Pairwise (· < ·) :=
  (mergeF_spec l b r _ _ _ (by omega) (ofL_sorted xs) (ofL_sorted ys)).2
theorem mergeL_len (l b r : Bool) (xs ys : List Str) : (mergeL l b r (ofL xs) (ofL ys)).length ≤ xs.length + ys.length := by
  have h1 := mergeF_len l b r ((ofL xs).length + (ofL ys).length + 1) (ofL xs) (ofL ys)
  have h2 := ofL_length xs
  have h3 := ofL_length ys
  unfold mergeL; omega
end Go.Proofs.Ytgolodpihmdmoaa
