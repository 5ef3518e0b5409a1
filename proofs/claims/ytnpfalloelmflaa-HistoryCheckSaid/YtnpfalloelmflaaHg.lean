/-
  Chapter 54: Legal.
-/
import Derived.Test.YtnpfalloelmflaaHe
import Derived.Laws.MakeOwn
namespace Go.Proofs.Ytnpfalloelmflaa
open Go.RowKit

/-- Which indices an order has used. -/
def uA (n : Nat) (U : List Int) : Array Value := ((List.range n).map fun (i : Nat) => Value.bool (decide ((i : Int) ∈ U))).toArray
theorem uA_size (n : Nat) (U : List Int) : (uA n U).size = n := by simp [uA]
theorem uA_at {n : Nat} {U : List Int} {i : Nat} (h : i < n) : (uA n U)[i]? = some (.bool (decide ((i : Int) ∈ U))) := by simp [uA, h]
theorem uA_set {n : Nat} {U : List Int} {i : Nat} (_ : i < n) : (uA n U).setIfInBounds i (.bool true) = uA n (U ++ [(i : Int)]) := by
  apply Array.ext
  · simp [uA]
  · intro j h1 h2
    have hj : j < n := by simpa [uA] using h2
    rw [Array.getElem_setIfInBounds (by simpa [uA] using hj)]
    by_cases e : i = j
    · subst e; simp [uA]
    · rw [if_neg e]
      have : ((j : Int) = (i : Int)) = False := by simp; omega
      simp [uA, this]
theorem uA_nil (n : Nat) : madeCells #[.bool false] n = uA n [] := by
  apply Array.ext
  · simp [madeCells, uA]
  · intro j h1 h2
    simp [madeCells, uA, Nat.mod_one]
/-- The rest of an order, from what has been used and added. -/
def legFrom (h : List Opn) : List Int → List Int → List Str → Bool
  | [], _, _ => true
  | i :: r, U, S => match h[i.toNat]? with
    | none => false
    | some x => if i < 0 ∨ i ∈ U then false else if kindO x = 1 then legFrom h r (U ++ [i]) (S ++ addO x) else if kindO x = 2 then exactB S (seeO x) && legFrom h r (U ++ [i]) S else legFrom h r (U ++ [i]) S
def legB (h : List Opn) (order : List Int) : Bool := legFrom h order [] []
theorem legFrom_bad {h : List Opn} {i : Int} {r U : List Int} {S : List Str} (hb : i < 0 ∨ (h.length : Int) ≤ i ∨ i ∈ U) : legFrom h (i :: r) U S = false := by
  unfold legFrom
  cases hx : h[i.toNat]? with
  | none => rfl
  | some x =>
    have hlt := (List.getElem?_eq_some_iff.1 hx).1
    have : i < 0 ∨ i ∈ U := by
      rcases hb with h1 | h1 | h1
      · exact .inl h1
      · left; omega
      · exact .inr h1
    simp only
    rw [if_pos this]
theorem legFrom_ok {h : List Opn} {i : Nat} {r U : List Int} {S : List Str} (hi : i < h.length) (hu : (i : Int) ∉ U) :
    legFrom h ((i : Int) :: r) U S = if kindO h[i] = 1 then legFrom h r (U ++ [(i : Int)]) (S ++ addO h[i]) else if kindO h[i] = 2 then exactB S (seeO h[i]) && legFrom h r (U ++ [(i : Int)]) S else legFrom h r (U ++ [(i : Int)]) S := by
  conv => lhs; unfold legFrom
  rw [Int.toNat_natCast, List.getElem?_eq_getElem hi]
  simp only
  rw [if_neg (by rintro (h1 | h1); omega; exact hu h1)]
theorem SetB.setCell {w : World} {b n : Nat} {S : List Str} (h : SetB w b n S) {p : Addr} (hp : b ≠ p.block) (u : Value) : SetB (w.setCell p u) b n S := by
  obtain ⟨D, ⟨es, clock, h1, h2⟩, h3⟩ := h
  exact ⟨D, ⟨es, clock, (Below.heap_setCell w p u b hp).trans h1, h2⟩, h3⟩
theorem Try.infoBool : (Try.prog.info? 4).map (fun i => (i.zero, i.size, i.bytes)) = some (some (.bool false), 1, 1) := by kernel_rfl
theorem int_at {w : World} {v : Value} {xs : List Int} (h : Reads vi w v xs) {k : Nat} (hk : k < xs.length) : ∃ b off cap, v = .slice (some ⟨b, off, none⟩) xs.length cap ∧ b < w.heap.size ∧ w.cell? ⟨b, off + k, none⟩ = some (vi xs[k]) := by
  obtain ⟨ao, cap, rfl, _, _, _, hx⟩ := h
  obtain ⟨b, off, rfl, hb, hc⟩ := hx (by rintro rfl; simp at hk)
  exact ⟨b, off, cap, rfl, hb, hc k hk⟩
theorem below_mapg {W wr w' : World} {g : Nat} (hb : Below W.heap.size W wr) (hg : wr.grownBy w' (some g)) (hge : W.heap.size ≤ g) : Below W.heap.size W w' :=
  ⟨hg.os.trans hb.os, hg.tape.trans hb.tape, hg.output.trans hb.output, Nat.le_trans hb.size hg.size, fun k hk => by
    have h4 := hb.size
    rw [hg.block k (by omega) (fun e => by injection e with e; omega)]
    exact hb.block k hk⟩

set_option maxRecDepth 100000 in
set_option maxHeartbeats 8000000 in
theorem legal_any (v u : Value) (h : List Opn) (order : List Int) (W : World) (hr : ReadsO W v h) (ho : Reads vi W u order) (hs : SmallH h) (hor : order.length ≤ 1000) : Calls Try.prog 20 #[v, u] W (BoolMade W (legB h order)) := by
  obtain ⟨i0, hinf, hz0, hz1, hz2⟩ := info_parts Try.infoBool
  have HR := Lib.hid hr
  have HO := Lib.hid ho
  have HS := Lib.hid hs
  have hn := hs.1
  obtain ⟨ao, cap, rfl, hl, hm, -, -⟩ := hr
  obtain ⟨ao2, cap2, rfl, hl2, hm2, -, -⟩ := ho
  unfold maxLen at hm hm2
  clear hs
  have hmk : (Instr.makeSlice 54 (.int .i64 (h.length : Int)) (.int .i64 (h.length : Int))).run Try.prog W = .ok (.slice (some ⟨W.heap.size, 0, none⟩) h.length h.length) (W.alloc (.cells (uA h.length []) 4)) := by
    have h0 := run_make (P := Try.prog) W 54 4 i0 (.bool false) Try.underlying54 hinf hz0 .i64 .i64 (h.length : Int) (h.length : Int) (by omega) (Int.le_refl _) (by rw [hz2]; omega) (by omega)
    have e : ((h.length : Nat) : Int).toNat = h.length := by omega
    rw [e] at h0
    have e2 : madeCells (Value.bool false).cells (h.length * i0.size) = uA h.length [] := by rw [hz1, Nat.mul_one]; exact uA_nil _
    rw [e2] at h0
    exact h0
  clear hinf hz0 hz1 hz2
  go_enter Try.func20, Try.ntmps20
  go_wp2_with (refine wpList_make_map rfl 49 rfl ?_)
  generalize hwm : World.alloc (World.alloc W _) _ = wm
  have HM0 : Hid (SetB wm (W.heap.size + 1) 0 [] ∧ Blk wm W.heap.size 4 (uA h.length []) ∧ Below W.heap.size W wm) := Lib.hid (by
    subst hwm
    refine ⟨?_, (Blk.new _ _ _).alloc _, below_two _ _ _⟩
    have h1 := SetB.made (W.alloc (.cells (uA h.length []) 4))
    rwa [World.size_alloc] at h1)
  clear hwm hmk
  go_loopg [17] order.length (fun m i wr => ∃ (k : Nat) (S : List Str), m + k = order.length ∧ i = .int .i64 k ∧ legB h order = legFrom h (order.drop k) (order.take k) S ∧ S.length ≤ 1000 * k ∧ SetB wr (W.heap.size + 1) S.length S ∧ Blk wr W.heap.size 4 (uA h.length (order.take k)) ∧ Below W.heap.size W wr)
  case atStart => exact ⟨0, [], by omega, rfl, rfl, by simp, HM0.out.1, HM0.out.2.1, HM0.out.2.2⟩
  case round =>
    obtain ⟨k, S, hmk, rfl, hleg, hSl, hset, hblk, hbel⟩ := hrel
    have HM := Lib.hid hmk
    have HLEG := Lib.hid hleg
    have HSET := Lib.hid hset
    have KB := Lib.hid hblk
    have KW := Lib.hid hbel
    have hk : k ≤ order.length := by omega
    clear hmk hleg hset hblk hbel HM0
    by_cases hlt : k < order.length
    · obtain ⟨bo, oo, co, hv, hbo, hco⟩ := int_at HO.out hlt
      injection hv with e1 e2 e3
      subst e1
      have hki : (k : Int) < order.length := by omega
      have hk0 : (0 : Int) ≤ (k : Int) := by omega
      have q0 := (KW.out.cell (p := ⟨bo, oo + k, none⟩) hbo).trans hco
      have HLG : Hid (legB h order = legFrom h (order[k] :: order.drop (k + 1)) (order.take k) S) := Lib.hid (by rw [HLEG.out, List.drop_eq_getElem_cons hlt])
      have HTK : Hid (order.take (k + 1) = order.take k ++ [order[k]]) := Lib.hid (List.take_succ_eq_append_getElem hlt)
      unfold vi at q0
      clear e2 e3 hco HLEG
      generalize order[k] = i at *
      generalize legB h order = lb at *
      by_cases h1 : i < 0
      · have HE : Hid (lb = false) := Lib.hid (HLG.out.trans (legFrom_bad (.inl h1)))
        go_wp2
        go_ret
        exact ⟨ret_bool HE.out.symm, KW.out⟩
      · by_cases h2 : (h.length : Int) ≤ i
        · have HE : Hid (lb = false) := Lib.hid (HLG.out.trans (legFrom_bad (.inr (.inl h2))))
          go_wp2
          go_ret
          exact ⟨ret_bool HE.out.symm, KW.out⟩
        · obtain ⟨j, rfl⟩ : ∃ j : Nat, i = j := ⟨i.toNat, by omega⟩
          have hjl : j < h.length := by omega
          have c0 := (KB.out.cell j).trans (uA_at hjl)
          have f0 := KB.out.frozen j
          have hlt0 := KB.out.lt
          by_cases h3 : (j : Int) ∈ order.take k
          · have HE : Hid (lb = false) := Lib.hid (HLG.out.trans (legFrom_bad (.inr (.inr h3))))
            rw [decide_eq_true h3] at c0
            clear h3
            go_wp2
            go_ret
            exact ⟨ret_bool HE.out.symm, KW.out⟩
          · rw [decide_eq_false h3] at c0
            have HLO := Lib.hid (HLG.out.trans (legFrom_ok hjl h3))
            obtain ⟨b, off, cap1, a4, c4, a5, c5, hv, _, _, hm4, hm5, hl4, hl5, hcell, r1, r2⟩ := HR.out.at2 hjl
            injection hv with e1 e2 e3
            subst e1
            have hsm := HS.out.2 _ (List.getElem_mem hjl)
            have hla := hsm.1
            have hls := hsm.2.1
            have HSM := Lib.hid hsm.2.2
            have HN := Lib.hid (And.intro hcell (And.intro r1 r2))
            have HU : Hid (∀ w, Blk w W.heap.size 4 ((uA h.length (order.take k)).setIfInBounds j (.bool true)) → Blk w W.heap.size 4 (uA h.length (order.take (k + 1)))) := Lib.hid (fun w hw => by rw [HTK.out, ← uA_set hjl]; exact hw)
            have HTK2 := Lib.hid HTK.out
            clear e2 e3 hcell r1 r2 hsm h3 HLG
            generalize h[j] = x at *
            -- behind the store
            have KB2 := Lib.hid (HU.out _ (KB.out.set_ j (.bool true)))
            have KW2 := Lib.hid (KW.out.setCell (p := ⟨W.heap.size, j, none⟩) (Nat.le_refl _) (.bool true))
            have HSET2 := Lib.hid (HSET.out.setCell (p := ⟨W.heap.size, j, none⟩) (by simp) (.bool true))
            generalize hws : wr.setCell ⟨W.heap.size, j, none⟩ (.bool true) = ws at KB2 KW2 HSET2
            have HWS := Lib.hid hws
            clear hws
            have dd := Lib.hid (HN.out.1 ws KW2.out)
            have d1 := dd.out.2.1
            have d4 := dd.out.2.2.2.2.1
            have d5 := dd.out.2.2.2.2.2
            rw [← HWS.out] at d1 d4 d5
            by_cases hk1 : kindO x = 1
            · have e1 := beq_iff_eq.2 hk1
              have HL1 : Hid (lb = legFrom h (order.drop (k + 1)) (order.take (k + 1)) (S ++ addO x)) := Lib.hid (by rw [HLO.out, if_pos hk1, HTK2.out])
              clear hk1 HLO
              generalize addO x = la at *
              go_wp2
              rw [HWS.out] at d1 d4 d5 ⊢
              clear d1 d4 d5 c0 f0
              obtain ⟨G2, hG2⟩ : ∃ G, G = gk := ⟨_, rfl⟩
              subst hG2
              go_loopg [51] la.length (fun m i wr => ∃ q : Nat, m + q = la.length ∧ i = .int .i64 q ∧ SetB wr (W.heap.size + 1) (S ++ la.take q).length (S ++ la.take q) ∧ Blk wr W.heap.size 4 (uA h.length (order.take (k + 1))) ∧ Below W.heap.size W wr)
              case atStart => exact ⟨0, by omega, rfl, by simpa using HSET2.out, KB2.out, KW2.out⟩
              case round =>
                obtain ⟨q, hmq, rfl, hset, hblk, hbel⟩ := hrel
                have HM3 := Lib.hid hmq
                replace HSET2 := Lib.hid hset
                replace KB2 := Lib.hid hblk
                replace KW2 := Lib.hid hbel
                have hq : q ≤ la.length := by omega
                clear hmq hset hblk hbel
                by_cases hql : q < la.length
                · obtain ⟨bs, os, cs, hv, hbs, hcs⟩ := str_at HN.out.2.1 hql
                  injection hv with e1 e2 e3
                  subst e1
                  have hcs2 := (KW2.out.cell (p := ⟨bs, os + q, none⟩) hbs).trans hcs
                  have hqi : (q : Int) < la.length := by omega
                  have hq0 : (0 : Int) ≤ (q : Int) := by omega
                  have hsl : la[q].length ≤ maxLen := Nat.le_trans (HSM.out.1 _ (List.getElem_mem hql)) (by unfold maxLen; omega)
                  have HTQ : Hid (S ++ la.take (q + 1) = (S ++ la.take q) ++ [la[q]]) := Lib.hid (by rw [List.take_succ_eq_append_getElem hql, List.append_assoc])
                  have hbig : (S ++ la.take q).length < maxLen := by rw [List.length_append, List.length_take]; unfold maxLen; omega
                  unfold vs at hcs2
                  clear e2 e3 hcs
                  generalize la[q] = s at *
                  generalize S ++ la.take q = S2 at *
                  go_wp2_with (refine wpList_store_set rfl (.tmp 55) (.tmp 56) _ rfl (W.heap.size + 1) _ S2 s rfl HSET2.out hbig rfl hsl rfl ?_)
                  intro w8 hset8 hgr8
                  have H8 := Lib.hid (And.intro hset8 (And.intro (show Blk w8 W.heap.size 4 (uA h.length (order.take (k + 1))) from (hgr8.block _ KB2.out.lt (by simp)).trans KB2.out) (below_mapg KW2.out hgr8 (by omega))))
                  clear hset8 hgr8
                  go_wp2
                  go_roundg (la.length - (q + 1))
                  case measure => have := HM3.out; omega
                  case rel => exact ⟨q + 1, by omega, by go_num, by rw [HTQ.out, List.length_append]; exact H8.out.1, H8.out.2.1, H8.out.2.2⟩
                · have hqq : q = la.length := by omega
                  subst hqq
                  have HS3 : Hid (SetB wr (W.heap.size + 1) (S ++ la).length (S ++ la)) := Lib.hid (by have h0 := HSET2.out; rwa [List.take_length] at h0)
                  have hSl2 : (S ++ la).length ≤ 1000 * (k + 1) := by rw [List.length_append]; omega
                  go_wp2
                  go_roundg (order.length - (k + 1))
                  case measure => have := HM.out; omega
                  case rel => exact ⟨k + 1, _, by omega, by go_num, HL1.out, hSl2, HS3.out, KB2.out, KW2.out⟩
            · have e1 := beq_eq_false_iff_ne.2 hk1
              by_cases hk2 : kindO x = 2
              · have e2 := beq_iff_eq.2 hk2
                have hex := exactly_any _ (seeO x) (W.heap.size + 1) S.length S ws (HN.out.2.2.keep KW2.out) HSET2.out (by omega) (by omega) HSM.out.2
                by_cases hq : exactB S (seeO x) = true
                · rw [hq] at hex
                  have HL1 : Hid (lb = legFrom h (order.drop (k + 1)) (order.take (k + 1)) S) := Lib.hid (by rw [HLO.out, if_neg hk1, if_pos hk2, hq, Bool.true_and, HTK2.out])
                  have HEX := Lib.hid hex
                  clear hex hq hk1 hk2 HLO
                  generalize seeO x = ls at *
                  go_wp2_with fail
                  rw [HWS.out] at *
                  refine HEX.out.mono ?_
                  rintro e w6 ⟨rfl, hb⟩
                  have H6 := Lib.hid (And.intro (HSET2.out.on hb) (And.intro (KB2.out.on hb) (KW2.out.trans (hb.mono KW2.out.size))))
                  have hSl2 : S.length ≤ 1000 * (k + 1) := by omega
                  clear hb d1 d4 d5 c0 f0
                  go_wp2
                  go_roundg (order.length - (k + 1))
                  case measure => have := HM.out; omega
                  case rel => exact ⟨k + 1, _, by omega, by go_num, HL1.out, hSl2, H6.out.1, H6.out.2.1, H6.out.2.2⟩
                · rw [Bool.eq_false_iff.2 hq] at hex
                  have HL1 : Hid (lb = false) := Lib.hid (by rw [HLO.out, if_neg hk1, if_pos hk2, Bool.eq_false_iff.2 hq]; rfl)
                  have HEX := Lib.hid hex
                  clear hex hq hk1 hk2 HLO
                  generalize seeO x = ls at *
                  go_wp2_with fail
                  rw [HWS.out] at *
                  refine HEX.out.mono ?_
                  rintro e w6 ⟨rfl, hb⟩
                  have H6 := Lib.hid (KW2.out.trans (hb.mono KW2.out.size))
                  clear hb d1 d4 d5 c0 f0
                  go_wp2
                  go_ret
                  exact ⟨ret_bool HL1.out.symm, H6.out⟩
              · have e2 := beq_eq_false_iff_ne.2 hk2
                have HL1 : Hid (lb = legFrom h (order.drop (k + 1)) (order.take (k + 1)) S) := Lib.hid (by rw [HLO.out, if_neg hk1, if_neg hk2, HTK2.out])
                have hSl2 : S.length ≤ 1000 * (k + 1) := by omega
                clear hk1 hk2 HLO
                go_wp2
                rw [HWS.out] at *
                go_roundg (order.length - (k + 1))
                case measure => have := HM.out; omega
                case rel => exact ⟨k + 1, _, by omega, by go_num, HL1.out, hSl2, HSET2.out, KB2.out, KW2.out⟩
    · have HE : Hid (legB h order = true) := Lib.hid (by rw [HLEG.out, List.drop_eq_nil_of_le (by omega)]; rfl)
      go_wp2
      go_ret
      exact ⟨ret_bool HE.out.symm, KW.out⟩
end Go.Proofs.Ytnpfalloelmflaa
