/-
  Chapter 02: the reference's Of: an insertion into a list of the call's own.
-/
import Derived.Test.YtnpfalloelmflaaH3
import Derived.Test.YtnpfalloelmflaaLs
namespace Go.Proofs.Ytnpfalloelmflaa
open Go.RowKit Go.Sort
theorem Try.infoStr : (Try.prog.info? 9).map (fun i => (i.zero, i.size, i.bytes)) = some (some (.string ⟨#[]⟩), 1, 16) := by kernel_rfl

theorem elem_str : Try.prog.elem 29 = 9 := by kernel_rfl
theorem under_slice : Try.prog.underlying 29 = some (.slice (Try.prog.elem 29)) := by rw [elem_str]; exact Try.underlying29

theorem size_str (w : World) : (sizeOf 9).run Try.prog w = .ok 1 w := Try.sizeOf9 w

/-- A slice that is not empty: its head's cell, and its tail. -/
theorem Reads.cons {w : World} {v : Value} {x : Str} {t : List Str} (h : Reads vs w v (x :: t)) :
    ∃ b off n cap v', v = .slice (some ⟨b, off, none⟩) n cap ∧ n = t.length + 1 ∧ n ≤ 9223372036854775807 ∧ b < w.heap.size ∧ w.cell? ⟨b, off, none⟩ = some (.string (toB x)) ∧
      (∀ wx, (Instr.slice 29 (.slice (some ⟨b, off, none⟩) n cap) (some (.int .i64 1)) none none).run Try.prog wx = .ok v' wx) ∧ Reads vs w v' t := by
  have h' := h
  rcases h.cases with ⟨e, _⟩ | ⟨h0, b, off, cap, rfl, hl, hm, hlt, hc⟩
  · cases e
  · obtain ⟨v', h1, h2⟩ := cut_low under_slice elem_str size_str rfl h' 1 (by omega) (by simp; omega)
    exact ⟨b, off, _, cap, v', rfl, by simp, by unfold maxLen at hm; omega, hlt, hc 0 (by simp), h1, h2⟩

theorem append_keep {w2 wr wd w1 : World} {e : TypeId} {out : List Str} {x : Str} {o : Obj} {v v' : Value} (hown : wr.ownsRow w2.heap.size e 1 v out.length (out.map vs)) (hb : Below w2.heap.size w2 wr)
    (hgr : (wd.alloc o).grownBy w1 v.ownBlock) (hown' : w1.ownsRow w2.heap.size e 1 v' (out.length + 1) (out.map vs ++ [.string (toB x)])) (hd : wd.heap = wr.heap := by rfl) (ht : wd.tape = wr.tape := by rfl) (hos : wd.os = wr.os := by rfl) (hout : wd.output = wr.output := by rfl) :
    w1.ownsRow w2.heap.size e 1 v' (out ++ [x]).length ((out ++ [x]).map vs) ∧ Below w2.heap.size w2 w1 := by
  refine ⟨by rw [List.length_append, List.map_append]; exact hown', ⟨hgr.os.trans (hos.trans hb.os), hgr.tape.trans (ht.trans hb.tape), hgr.output.trans (hout.trans hb.output), ?_, fun k hk => ?_⟩⟩
  · have h1 := hgr.size
    have h2 := hb.size
    simp [hd] at h1; omega
  · have h2 := hb.size
    rw [hgr.block k (by simp [hd]; omega) (fun e => by have := (hown.lt k e.symm).1; omega), Below.heap_alloc _ _ _ (by rw [hd]; omega), hd]
    exact hb.block k hk

def MergeMade (w : World) (out : List Str) (e : Ending) (w' : World) : Prop := ∃ v', e = .returned v' ∧ Reads vs w' v' out ∧ Below w.heap.size w w'

theorem ofL_old {xs : List Str} {i : Nat} (h : i < xs.length) (hm : xs[i] ∈ ofL (xs.take i)) : ofL (xs.take (i + 1)) = ofL (xs.take i) :=
  ofL_eq (ofL_sorted _) fun s => by
    rw [mem_ofL] at hm
    rw [List.take_succ_eq_append_getElem h, mem_ofL]
    simp only [List.mem_append, List.mem_singleton]
    exact ⟨.inl, fun h => h.elim id (fun e => e ▸ hm)⟩

theorem ofL_new {xs : List Str} {i : Nat} (h : i < xs.length) {A B : List Str} (hAB : A ++ B = ofL (xs.take i)) (hB : ∀ b ∈ B, xs[i] < b) (hA : ∀ a ∈ A, a < xs[i]) : ofL (xs.take (i + 1)) = A ++ xs[i] :: B := by
  have hs := ofL_sorted (xs.take i)
  rw [← hAB, List.pairwise_append] at hs
  refine ofL_eq ?_ fun s => ?_
  · rw [List.pairwise_append, List.pairwise_cons]
    refine ⟨hs.1, ⟨hB, hs.2.1⟩, fun a ha b hb => ?_⟩
    rcases List.mem_cons.1 hb with e | hb
    · exact e ▸ hA a ha
    · exact hs.2.2 a ha b hb
  · rw [List.take_succ_eq_append_getElem h]
    have hm : s ∈ A ++ B ↔ s ∈ xs.take i := by rw [hAB]; exact mem_ofL _ s
    simp only [List.mem_append, List.mem_cons] at hm ⊢
    rw [← hm]
    constructor
    · rintro (h | h | h)
      · exact .inl (.inl h)
      · exact .inr (by simpa using h)
      · exact .inl (.inr h)
    · rintro ((h | h) | h)
      · exact .inl h
      · exact .inr (.inr h)
      · exact .inr (.inl (by simpa using h))

/-- The last of A is below x, and A is sorted: all of A is. -/
theorem below_last {A : List Str} {x : Str} (hs : A.Pairwise (· < ·)) (h0 : 0 < A.length) (hl : A[A.length - 1] < x) : ∀ a ∈ A, a < x := by
  intro a ha
  obtain ⟨j, hj, rfl⟩ := List.getElem_of_mem ha
  by_cases e : j = A.length - 1
  · subst e; exact hl
  · exact slt_trans (List.pairwise_iff_getElem.1 hs j (A.length - 1) hj (by omega) (by omega)) hl

theorem swap_cells {A B : List Str} {x : Str} (h0 : 0 < A.length) : ((A ++ x :: B).set (A.length - 1) x).set A.length A[A.length - 1] = A.take (A.length - 1) ++ x :: (A[A.length - 1] :: B) := by
  apply List.ext_getElem?
  intro j
  rw [List.getElem?_set, List.getElem?_set]
  have hl : (A.take (A.length - 1)).length = A.length - 1 := by simp
  by_cases h1 : j = A.length
  · subst h1
    rw [if_pos rfl, if_pos (by simp), List.getElem?_append_right (by omega), hl, show A.length - (A.length - 1) = 1 by omega]
    rfl
  · rw [if_neg (fun e => h1 e.symm)]
    by_cases h2 : j = A.length - 1
    · subst h2
      rw [if_pos rfl, if_pos (by simp; omega), List.getElem?_append_right (by omega), hl, Nat.sub_self]
      rfl
    · rw [if_neg (fun e => h2 e.symm)]
      by_cases h3 : j < A.length - 1
      · rw [List.getElem?_append_left (by omega), List.getElem?_append_left (by omega), List.getElem?_take, if_pos h3]
      · rw [List.getElem?_append_right (by omega), List.getElem?_append_right (by omega), hl]
        obtain ⟨m, rfl⟩ : ∃ m, j = A.length + 1 + m := ⟨j - A.length - 1, by omega⟩
        rw [show A.length + 1 + m - A.length = m + 1 by omega, show A.length + 1 + m - (A.length - 1) = m + 2 by omega]
        rfl

theorem owned_addr {w : World} {base n : Nat} {e : TypeId} {v : Value} {xs : List Value} (h : w.ownsRow base e 1 v n xs) (h0 : 0 < n) : ∃ g cap, v = .slice (some ⟨g, 0, none⟩) n cap ∧ base ≤ g ∧ g < w.heap.size ∧ n ≤ cap ∧ cap ≤ maxLen := by
  rcases h.2 with ⟨_, h1⟩ | ⟨g, cap, cur, rfl, hb, hg, hn, hm, _⟩
  · omega
  · exact ⟨g, cap, rfl, hb, (h.lt g rfl).2, hn, hm⟩

set_option maxHeartbeats 2000000 in
theorem rof_any (v : Value) (xs : List Str) (w : World) (hr : Reads vs w v xs) (hn : xs.length ≤ 1000000) :
    Calls Try.prog 40 #[v] w (Made w (ofL xs)) := by
  obtain ⟨i0, hinf, hz0, hz1, hz2⟩ := info_parts Try.infoStr
  have HI := Lib.hid (And.intro hinf (And.intro hz0 (And.intro hz1 hz2)))
  clear hinf hz0 hz1 hz2
  have hr0 := hr
  obtain ⟨ao, cap, rfl, hl, hm, hno, hx⟩ := hr
  unfold maxLen at hm
  have HR := Lib.hid hr0
  have HXX := Lib.hid hx
  clear hr0 hx
  go_enter Try.func40, Try.ntmps40
  go_wp2
  go_loopg [4, 3] (xs.length) (fun m i o wr => ∃ k : Nat, m + k = xs.length ∧ i = .int .i64 k ∧ wr.ownsRow w.heap.size 9 1 o (ofL (xs.take k)).length ((ofL (xs.take k)).map vs) ∧ Below w.heap.size w wr)
  case atStart =>
    refine ⟨0, by omega, rfl, ?_, (Below.refl _ _).alloc (Nat.le_refl _) _⟩
    rw [List.take_zero, ofL_nil]
    exact World.ownsRow_made w #[] 0 (Nat.le_refl _) (Nat.zero_le _) rfl
  case round =>
    obtain ⟨k, hmk, rfl, hown, hbel⟩ := hrel
    have HM := Lib.hid hmk
    have hk : k ≤ xs.length := by omega
    have HO := Lib.hid (And.intro hown hbel)
    clear hmk hown hbel
    by_cases hlt : k < xs.length
    · obtain ⟨b, off, rfl, hb, hc⟩ := HXX.out (by intro e; subst e; simp at hlt)
      have hcell : wr.cell? ⟨b, off + k, none⟩ = some (.string (toB xs[k])) := (HO.out.2.cell hb).trans (hc k hlt)
      clear hc
      have hh := rhas_any u3 (ofL (xs.take k)) xs[k] wr (Reads.of_owns HO.out.1)
      by_cases hmem : xs[k] ∈ ofL (xs.take k)
      · rw [decide_eq_true hmem] at hh
        have HH := Lib.hid hh
        have HE := Lib.hid (ofL_old hlt hmem)
        clear hh hmem
        go_wp2_with fail
        refine HH.out.mono ?_
        rintro e w1 ⟨rfl, rfl⟩
        go_wp2
        go_roundg (xs.length - (k + 1))
        case measure => have := HM.out; omega
        case rel => exact ⟨k + 1, by omega, by go_num, by rw [HE.out]; exact HO.out.1, HO.out.2⟩
      · rw [decide_eq_false hmem] at hh
        have HH := Lib.hid hh
        have hol : (ofL (xs.take k)).length ≤ 1000000 := by have := ofL_length (xs.take k); simp at this; omega
        have HN := Lib.hid hmem
        have hS := ofL_sorted (xs.take k)
        have hnew := fun A B => @ofL_new xs k hlt A B
        generalize ofL (xs.take k) = out at *
        generalize hx : xs[k] = x at *
        have HNEW := Lib.hid (And.intro hnew (And.intro hS hx))
        clear hh hmem hnew hS hx
        go_wp2_with fail
        refine HH.out.mono ?_
        rintro e w1 ⟨rfl, rfl⟩
        go_wp2_with (at_builtin; refine wpList_append_own _ rfl _ _ 29 rfl w.heap.size 9 i0 (.string ⟨#[]⟩) 1 16 Try.underlying29 HI.out.1 HI.out.2.1 HI.out.2.2.1 HI.out.2.2.2 rfl (by decide) _ _ _ rfl (by exact HO.out.1.alloc _) ⟨_, 0, none⟩ 1 1 [.string (toB x)] rfl rfl ?q1 ?q2 ?q3 ?q4 ?q5 ?_)
        case q1 => exact cell_one_new _ _ _
        case q2 => intro u hu; simp at hu; subst hu; rfl
        case q3 => unfold maxLen; omega
        case q4 => omega
        case q5 => have := HO.out.2.size; simp; omega
        intro v3 w3 hown3 hgr3 _
        have H3 := append_keep HO.out.1 HO.out.2 (by exact hgr3) hown3
        clear hown3 hgr3
        obtain ⟨g, cp, hv3, hbg, hgl, hncp, hcm⟩ := owned_addr H3.1 (by simp)
        subst hv3
        generalize hnn : (out ++ [x]).length = nn at *
        have hnn2 : nn = out.length + 1 := by rw [← hnn]; simp
        have H4 := Lib.hid (And.intro hnn2 H3)
        have hnb : nn ≤ 1000001 := by omega
        have hn1 : 1 ≤ nn := by omega
        unfold maxLen at hcm
        clear H3 hnn hnn2
        go_wp2
        obtain ⟨wo, hwo⟩ : ∃ wo : World, wo = w3 := ⟨_, rfl⟩
        subst hwo
        go_loopg [5] (nn - 1) (fun m kk wr2 => ∃ (A B : List Str), A.length = m ∧ A ++ B = out ∧ kk = .int .i64 A.length ∧ (∀ b ∈ B, x < b) ∧ wr2.ownsRow w.heap.size 9 1 (.slice (some ⟨g, 0, none⟩) nn cp) nn ((A ++ x :: B).map vs) ∧ Below w.heap.size w wr2)
        case atStart =>
          refine ⟨out, [], by have := H4.out.1; omega, by simp, ?_, by simp, ?_, H4.out.2.2⟩
          · have := H4.out.1
            go_num
          · exact H4.out.2.1
        case round =>
          obtain ⟨A, B, hAm, hAB, rfl, hB, hown2, hbel2⟩ := hrel
          have hnnA : nn = A.length + B.length + 1 := by have := hown2.1; simp at this; omega
          have H5 := Lib.hid (And.intro hAm (And.intro hAB (And.intro hB (And.intro hown2 (And.intro hbel2 hnnA)))))
          have hAl : A.length < nn := by omega
          clear hAm hAB hB hown2 hbel2 hnnA
          have hcx : wr.cell? ⟨g, A.length, none⟩ = some (.string (toB x)) := by
            rw [H5.out.2.2.2.1.cellAt A.length (by omega), List.getElem?_map, List.getElem?_append_right (Nat.le_refl _), Nat.sub_self]; rfl
          by_cases hA0 : A.length = 0
          · have hA : A = [] := List.length_eq_zero_iff.1 hA0
            have HA := Lib.hid hA
            rw [hA0]
            clear hA hA0 hcx hAl
            go_wp2
            go_quiet (fail)
            go_wp2
            go_roundg (xs.length - (k + 1))
            case measure => have := HM.out; omega
            case rel =>
              have hA := HA.out
              subst hA
              obtain ⟨_, hAB, hB, hown2, hbel2, _⟩ := H5.out
              have hR := HNEW.out.1 [] B hAB hB (by simp)
              refine ⟨k + 1, by omega, by go_num, ?_, hbel2.trans (below_drewN _)⟩
              rw [hR]
              have hl := hown2.1
              simp at hl
              have hl3 : ([] ++ x :: B : List Str).length = nn := by simp; omega
              rw [hl3]
              exact hown2
          · obtain ⟨p, hp⟩ : ∃ p, A.length = p + 1 := ⟨A.length - 1, by omega⟩
            obtain ⟨la, hla⟩ : ∃ la, A[p]? = some la := ⟨A[p], List.getElem?_eq_getElem (by omega)⟩
            have hcl : wr.cell? ⟨g, p, none⟩ = some (.string (toB la)) := by
              rw [H5.out.2.2.2.1.cellAt p (by omega), List.getElem?_map, List.getElem?_append_left (by omega), hla]; rfl
            have hlm : la ∈ A := List.mem_of_getElem? hla
            have hne : la ≠ x := by
              intro e
              apply HN.out
              rw [← H5.out.2.1, ← e]
              exact List.mem_append_left _ hlm
            have hf1 : wr.frozen? ⟨g, p, none⟩ = false := H5.out.2.2.2.1.frozenAt p
            have hf2 : wr.frozen? ⟨g, p + 1, none⟩ = false := H5.out.2.2.2.1.frozenAt (p + 1)
            rw [hp] at hcx hAl
            rw [hp]
            have HP := Lib.hid (And.intro hp (And.intro hla hne))
            clear hp hla hne hA0 hlm
            have hAl2 : (p : Int) + 1 < nn := by omega
            have hp0 : (0 : Int) < ((p + 1 : Nat) : Int) := by omega
            have hp1 : (0 : Int) < (p : Int) + 1 := by omega
            have hp2 : (p : Int) < nn := by omega
            by_cases hxl : x < la
            · have hB1 : Op.bytesLess (toB la).toList (toB x).toList = false := by rw [less_toB]; exact decide_eq_false (slt_asymm hxl)
              have hB2 : ((toB la).toList == (toB x).toList) = false := by rw [beq_toB]; exact decide_eq_false HP.out.2.2
              have HL := Lib.hid hxl
              clear hxl
              go_wp2
              have e1 : IntKind.i64.wrap ((p : Int) + 1 - 1) = (p : Int) := by rw [show (p : Int) + 1 - 1 = p by omega]; exact IntWalk.i64_in _ (by omega)
              have e2 : ((p : Int) + 1).toNat = p + 1 := by omega
              go_quiet (fail)
              clear e1 e2
              go_wp2
              have e1 : IntKind.i64.wrap ((p : Int) + 1 - 1) = (p : Int) := by rw [show (p : Int) + 1 - 1 = p by omega]; exact IntWalk.i64_in _ (by omega)
              have e2 : ((p : Int) + 1).toNat = p + 1 := by omega
              go_region
              all_goals clear e1 e2
              all_goals go_wp2
              go_roundg p
              case measure => have := H5.out.1; have := HP.out.1; omega
              case rel =>
                obtain ⟨_, hAB, hB, hown2, hbel2, _⟩ := H5.out
                obtain ⟨hp, hla, _⟩ := HP.out
                have hA : A = A.take p ++ [la] := by
                  have h1 := List.take_succ_eq_append_getElem (l := A) (i := p) (by omega)
                  rw [List.take_of_length_le (by omega)] at h1
                  have h2 : A[p] = la := by rw [List.getElem?_eq_getElem (by omega)] at hla; exact Option.some.inj hla
                  rw [h2] at h1
                  exact h1
                refine ⟨A.take p, la :: B, by simp; omega, by rw [← hAB]; conv => rhs; rw [hA]; simp, by simp; omega, ?_, ?_, ?_⟩
                · intro b hb
                  rcases List.mem_cons.1 hb with e | hb
                  · exact e ▸ HL.out
                  · exact hB b hb
                · have s1 := (hown2.stored p (.string (toB x))).1
                  have s2 := (s1.stored (p + 1) (.string (toB la))).1
                  have hsw := swap_cells (A := A) (B := B) (x := x) (by omega)
                  have h2 : A[A.length - 1] = la := by
                    rw [List.getElem?_eq_getElem (by omega)] at hla
                    have := Option.some.inj hla
                    simpa [hp] using this
                  rw [h2, hp] at hsw
                  simp only [Nat.add_sub_cancel] at hsw
                  rw [show Value.string (toB x) = vs x from rfl, show Value.string (toB la) = vs la from rfl, ← List.map_set, ← List.map_set, hsw] at s2
                  exact s2
                · exact ((hbel2.trans (below_drewN _)).setCell hbg _).setCell hbg _
            · have hlx : la < x := (slt_tri la x).elim id (fun h => h.elim (fun e => absurd e HP.out.2.2) (fun h => absurd h hxl))
              have hB1 : Op.bytesLess (toB la).toList (toB x).toList = true := by rw [less_toB]; exact decide_eq_true hlx
              have HL := Lib.hid hlx
              clear hxl hlx
              go_wp2
              have e1 : IntKind.i64.wrap ((p : Int) + 1 - 1) = (p : Int) := by rw [show (p : Int) + 1 - 1 = p by omega]; exact IntWalk.i64_in _ (by omega)
              have e2 : ((p : Int) + 1).toNat = p + 1 := by omega
              go_quiet (fail)
              clear e1 e2
              go_wp2
              go_roundg (xs.length - (k + 1))
              case measure => have := HM.out; omega
              case rel =>
                obtain ⟨_, hAB, hB, hown2, hbel2, hnn⟩ := H5.out
                obtain ⟨hp, hla, _⟩ := HP.out
                have hsA : A.Pairwise (· < ·) := by
                  have := HNEW.out.2.1
                  rw [← hAB, List.pairwise_append] at this
                  exact this.1
                have h2 : A[A.length - 1] = la := by
                  rw [List.getElem?_eq_getElem (by omega)] at hla
                  have := Option.some.inj hla
                  simpa [hp] using this
                have hR := HNEW.out.1 A B hAB hB (below_last hsA (by omega) (by rw [h2]; exact HL.out))
                refine ⟨k + 1, by omega, by go_num, ?_, hbel2.trans (below_drewN _)⟩
                rw [hR]
                have hl3 : (A ++ x :: B).length = nn := by simp; omega
                rw [hl3]
                exact hown2
    · go_wp2
      go_ret
      have h1 := HO.out.1
      rw [List.take_of_length_le (by omega)] at h1
      exact ⟨_, rfl, h1, HO.out.2⟩
end Go.Proofs.Ytnpfalloelmflaa
