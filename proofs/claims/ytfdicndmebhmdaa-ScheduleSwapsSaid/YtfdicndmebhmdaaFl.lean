/-
  Chapter 29: Layers, the walk.
-/
import Derived.Test.YtfdicndmebhmdaaFk
namespace Go.Proofs.Ytfdicndmebhmdaa
open Go.RowKit
/-- One value appended to a row, and the row stored, in a region that draws its order: the row's block apart from all others. -/
def JB (B nB nA nS : Nat) (w0 : World) (v : Value) (m : Nat) (xs : List Value) (x : Value) (F : World → Prop) : Inv := fun D st w =>
  (D nA = true → D nB = true) ∧ (D nS = true → ∀ j, j < nS → D j = true) ∧
  (D nS = false → Kept (fun b => some b = v.ownBlock) w0 w) ∧ (D nA = false → w.ownsRow B 3 1 v m xs) ∧
  (D nB = true → D nA = false → ∃ g, st nB = .slice (some ⟨g, 0, none⟩) 1 1 ∧ Blk w g 3 #[x]) ∧
  (D nA = true → D nS = false → w.ownsRow B 3 1 (st nA) (m + 1) (xs ++ [x]) ∧ ((st nA).ownBlock = v.ownBlock ∨ ∀ b, (st nA).ownBlock = some b → w0.heap.size ≤ b)) ∧ (D nS = true → F w)
section
variable {B nB nA nS m : Nat} {w0 w w' : World} {v : Value} {xs : List Value} {x : Value} {F : World → Prop} {D : Nat → Bool} {st : Nat → Value}
theorem JB.start (hr : w0.ownsRow B 3 1 v m xs) (st : Nat → Value) : JB B nB nA nS w0 v m xs x F (fun _ => false) st w0.drew :=
  ⟨(fun h => by cases h), (fun h => by cases h), fun _ => ⟨rfl, rfl, rfl, Nat.le_refl _, fun _ _ _ => rfl⟩, fun _ => hr, (fun h => by cases h), (fun h => by cases h), (fun h => by cases h)⟩
theorem JB.open_ (h : JB B nB nA nS w0 v m xs x F D st w) {i : Nat} (hi : i < nS) (hD : D i = false) : D nS = false ∧ Kept (fun b => some b = v.ownBlock) w0 w := by
  have : D nS = false := by
    cases e : D nS with
    | false => rfl
    | true => rw [h.2.1 e i hi] at hD; cases hD
  exact ⟨this, h.2.2.1 this⟩
theorem JB.pure (h : JB B nB nA nS w0 v m xs x F D st w) (i : Nat) (u : Value) (h1 : i ≠ nB) (h2 : i ≠ nA) (h3 : i ≠ nS) : JB B nB nA nS w0 v m xs x F (upD D i) (upV st i u) w := by
  obtain ⟨a, b, c, d, e, f, g⟩ := h
  unfold JB
  simp only [upD, upV, Ne.symm h1, Ne.symm h2, Ne.symm h3, if_false]
  refine ⟨a, fun hs j hj => ?_, c, d, e, f, g⟩
  split
  · rfl
  · exact b hs j hj
theorem JB.made (h : JB B nB nA nS w0 v m xs x F D st w) (hD : D nB = false) (h1 : nB ≠ nA) (h2 : nB < nS) : JB B nB nA nS w0 v m xs x F (upD D nB) (upV st nB (.slice (some ⟨w.heap.size, 0, none⟩) 1 1)) (w.alloc (.cells #[x] 3)) := by
  have hal : Below w.heap.size w (w.alloc (.cells #[x] 3)) := (Below.refl _ _).alloc (Nat.le_refl _) _
  have hS := (h.open_ h2 hD).1
  obtain ⟨a, b, c, d, e, f, g⟩ := h
  have hA : D nA = false := by
    cases e : D nA with
    | false => rfl
    | true => rw [a e] at hD; cases hD
  unfold JB
  simp only [upD, upV, Ne.symm h1, if_false, if_true, show ¬ nS = nB by omega, hS, hA]
  refine ⟨(fun q => by cases q), (fun q => by cases q), fun _ => (c hS).trans (Kept.of hal), fun _ => (d hA).alloc _, fun _ _ => ⟨_, rfl, Blk.new w _ _⟩, (fun q => by cases q), (fun q => by cases q)⟩
theorem JB.more (h : JB B nB nA nS w0 v m xs x F D st w) (hD : D nA = false) (hB : D nB = true) (h1 : nB ≠ nA) (h2 : nA < nS) {u : Value} (hr : w'.ownsRow B 3 1 u (m + 1) (xs ++ [x])) (hg : w.grownBy w' v.ownBlock) (hu : u.ownBlock = v.ownBlock ∨ u.ownBlock = some w.heap.size) :
    JB B nB nA nS w0 v m xs x F (upD D nA) (upV st nA u) w' := by
  have hS := (h.open_ h2 hD).1
  obtain ⟨a, b, c, d, e, f, g⟩ := h
  have hk := c hS
  have hk2 : Kept (fun b => some b = v.ownBlock) w w' := Kept.ofG hg fun k hk => hk
  unfold JB
  simp only [upD, upV, h1, if_false, if_true, show ¬ nS = nA by omega, hS, hB]
  refine ⟨(fun _ => trivial), (fun q => by cases q), fun _ => hk.trans hk2, (fun q => by cases q), (fun _ q => by cases q), fun _ _ => ⟨hr, hu.imp id fun e b hb => ?_⟩, (fun q => by cases q)⟩
  rw [e] at hb
  injection hb with hb
  have := hk.size
  omega
theorem JB.fin (h : JB B nB nA nS w0 v m xs x F D st w) (hall : ∀ j, j < nS → D j = true) (hA : D nA = true) (h1 : nA < nS) (h2 : nB < nS) (hF : F w') : JB B nB nA nS w0 v m xs x F (upD D nS) (upV st nS undef) w' := by
  obtain ⟨a, b, c, d, e, f, g⟩ := h
  unfold JB
  simp only [upD, upV, if_true, show ¬ nA = nS by omega, show ¬ nB = nS by omega, if_false, hA]
  refine ⟨fun _ => a hA, fun _ j hj => ?_, (fun q => by cases q), (fun q => by cases q), (fun _ q => by cases q), (fun _ q => by cases q), fun _ => hF⟩
  rw [if_neg (by omega)]; exact hall j hj
end
theorem wp_append_blkI {o : Oper} {a : Act} {w : World} {K : Act → World → Prop} {Q : Exit → Act → World → Prop} (s x : Operand)
    (ho : o.op = .call { callee := .builtin .append, args := #[s, x], argTypes := #[25, 25] }) (base : Nat) (v u : Value) (n : Nat) (xs : List Value) (g : Nat) (hs : a.eval s = v) (hx : a.eval x = .slice (some ⟨g, 0, none⟩) 1 1)
    (hone : u.oneCell' = true) (hown : w.ownsRow base 3 1 v n xs) (hB : Blk w g 3 #[u]) (hlen : n ≤ 100000) (hbase : base ≤ w.heap.size)
    (h : ∀ v' w', w'.ownsRow base 3 1 v' (n + 1) (xs ++ [u]) → w.grownBy w' v.ownBlock → (v'.ownBlock = v.ownBlock ∨ v'.ownBlock = some w.heap.size) → K (a.put o.dst v') w') : o.wp Try.prog a w K Q := by
  obtain ⟨v', w', hr, h1, h2, h3⟩ := run_append_blkI (ty := o.type) hone hown hB hlen hbase
  unfold Oper.wp execOp
  simp only [ho, resolve, invoke, builtin, Sem.run_bind, Sem.run_pure, Result.andThen_ok, List.map_toArray, List.map_cons, List.map_nil, hs, hx, hr]
  exact h v' w' h1 h2 h3
theorem append_nil_row {B : Nat} {ops : Array Oper} {rest : List Oper} {o : Oper} {a : Act} {w : World} {Q : Exit → Act → World → Prop} (hgd : o.guard = none) (s x : Operand)
    (ho : o.op = .call { callee := .builtin .append, args := #[s, x], argTypes := #[34, 34] })
    (v : Value) (m : Nat) (LL : Nat → List Int) (g : Nat) (hs : a.eval s = v) (hown : OutL B w v m LL) (hm : LL m = []) (hx : a.eval x = .slice (some ⟨g, 0, none⟩) 1 1) (hB : Blk w g 25 #[.slice none 0 0]) (hlen : m ≤ 100000) (hbase : B ≤ w.heap.size)
    (h : ∀ v' w', OutL B w' v' (m + 1) LL → Kept (fun b => B ≤ b) w w' → wpList Try.prog ops Q rest (a.put o.dst v') w') : wpList Try.prog ops Q (o :: rest) a w := by
  obtain ⟨i0, hinf, hz0, hz1, hz2⟩ := info_parts Try.infoInts29
  obtain ⟨f, h1, h2, h3⟩ := hown
  refine wpList_append_own w hgd s x 34 ho B 25 i0 _ 1 24 Try.underlying34 hinf hz0 hz1 hz2 rfl (by decide) v m ((List.range m).map f) hs h1 ⟨g, 0, none⟩ 1 1 [.slice none 0 0] hx rfl ?_ (by intro u hu; rw [List.mem_singleton.1 hu]; rfl) (by unfold maxLen; omega) (by omega) hbase ?_
  · intro j u hu
    have h2 : (#[.slice none 0 0] : Array Value)[j]? = some u := by simpa using hu
    rw [← h2, ← hB.cell j]
    by_cases h0 : j = 0 <;> simp [Addr.add, h0]
  · intro v' w' e1 e2 _
    refine h v' w' ?_ (Kept.ofG e2 fun k hk => (h1.lt k hk.symm).1)
    have hn : ∀ {v : Value} {n : Nat} {xs : List Value}, w.ownsRow B 3 1 v n xs → _ := fun h => rows_ne h h1 (by decide)
    refine ⟨fun l => if l = m then .slice none 0 0 else f l, ?_, fun l hl => ?_, fun l l' hl hl' hne b hb => ?_⟩
    · rw [List.range_succ, List.map_append]
      have e : (List.range m).map (fun l => if l = m then Value.slice none 0 0 else f l) = (List.range m).map f := List.map_congr_left fun l hl => if_neg (by have := List.mem_range.1 hl; omega)
      rw [e]
      simpa using e1
    · by_cases e : l = m
      · subst e
        simp only [if_true]
        rw [hm]
        exact World.ownsRow_nil _ _ _ _
      · simp only [e, if_false]
        exact (h2 l (by omega)).kept e2 (hn (h2 l (by omega)))
    · by_cases e : l = m
      · simp only [e, if_true] at hb; cases hb
      · by_cases e' : l' = m
        · simp only [e', if_true]; intro q; cases q
        · simp only [e, if_false] at hb
          simp only [e', if_false]
          exact h3 l l' (by omega) (by omega) hne b hb
theorem row_addr {w : World} {B n c : Nat} {e : TypeId} {a : Option Addr} {xs : List Value} (h : w.ownsRow B e 1 (.slice a n c) n xs) (h0 : 0 < n) : ∃ g, a = some ⟨g, 0, none⟩ ∧ B ≤ g := by
  rcases h.2 with ⟨_, e⟩ | ⟨g, cap, cur, hv, hb, _⟩
  · omega
  · injection hv with e1
    exact ⟨g, e1, hb⟩
theorem OutL.sorted {B m l : Nat} {w w' : World} {v : Value} {LL : Nat → List Int} {f : Nat → Value} (h1 : w.ownsRow B 25 1 v m ((List.range m).map f)) (h2 : ∀ l, l < m → w.ownsRow B 3 1 (f l) (LL l).length ((LL l).map vi)) (h3 : ∀ l l', l < m → l' < m → l ≠ l' → ∀ b, (f l).ownBlock = some b → (f l').ownBlock ≠ some b) (hl : l < m)
    (hr : w'.ownsRow B 3 1 (f l) (sortI (LL l)).length ((sortI (LL l)).map vi)) (hg : w.grownBy w' (f l).ownBlock) {LL' : Nat → List Int} (he : LL' l = sortI (LL l)) (hne : ∀ l', l' < m → l' ≠ l → LL' l' = LL l') : OutL B w' v m LL' := by
  refine ⟨f, h1.kept hg ?_, fun l' hl' => ?_, h3⟩
  · rcases rows_ne h1 (h2 l hl) (by decide) with q | q
    · exact .inl q
    · exact .inr q
  · by_cases e : l' = l
    · subst e; rw [he]; exact hr
    · rw [hne l' hl' e]
      refine (h2 l' hl').kept hg ?_
      cases q : (f l').ownBlock with
      | none => exact .inl rfl
      | some b => exact .inr (h3 l' l hl' hl e b q).symm
def LayMade (W : World) (L : List (List Int)) (e : Ending) (w' : World) : Prop := ∃ v B LL, e = .returned v ∧ OutL B w' v L.length LL ∧ (∀ l (h : l < L.length), LL l = L[l]) ∧ Below W.heap.size W w'
set_option maxRecDepth 100000 in
set_option maxHeartbeats 16000000 in
theorem layers_any (tv : Value) (t : List Ev) (W : World) (hr : ReadsE W tv t) (hn : t.length ≤ 1000) : Calls Try.prog 22 #[tv] W (LayMade W (layE t)) := by
  have HR := Lib.hid hr
  obtain ⟨ao, cap, rfl, hl, hm, -, -⟩ := hr
  unfold maxLen at hm
  have hmk := make_ints t.length (by omega) W
  go_enter Try.func22, Try.ntmps22
  go_upto_region 3 with fail
  have H0 : Hid (LyS W (W.alloc (.cells (rowF t.length fun _ => .int .i64 0) 3)) (W.heap.size + 1) W.heap.size t (fun j => if j < 0 then ly t j else 0) (.slice none 0 0) (nl t 0) (lyN t 0)) := Lib.hid ⟨by
      have h1 := Blk.new W 3 (rowF t.length fun _ => .int .i64 0)
      exact h1, ⟨fun _ => .slice none 0 0, World.ownsRow_nil _ _ _ _, (fun l hl => absurd hl (Nat.not_lt_zero _)), (fun l l' hl => absurd hl (Nat.not_lt_zero _))⟩, (Below.refl _ _).alloc (Nat.le_refl _) _, Nat.le_refl _, Nat.lt_succ_self _, by simp⟩
  generalize hw1 : World.alloc W _ = w1 at *
  generalize hga : W.heap.size = ga at H0 ⊢
  have HGA := Lib.hid hga
  clear hw1 hmk hga
  go_wp2
  go_loopg [3, 5, 6, 14] t.length (fun m o _ _ idx wr => ∃ k : Nat, m + k = t.length ∧ idx = .int .i64 k ∧ LyS W wr (ga + 1) ga t (fun j => if j < k then ly t j else 0) o (nl t k) (lyN t k))
  case atStart => exact ⟨0, by omega, rfl, H0.out⟩
  case round =>
    clear H0
    obtain ⟨k, hmk, rfl, hst⟩ := hrel
    have HM := Lib.hid hmk
    have HST := Lib.hid hst
    have hk : k ≤ t.length := by omega
    have hq := hst.out
    obtain ⟨f0, hf0, -⟩ := hq
    obtain ⟨oa, oc, rfl⟩ := row_slc hf0
    clear hf0
    clear hmk hst
    by_cases hkl : k < t.length
    · have hki : (k : Int) < t.length := by omega
      have hk0 : (0 : Int) ≤ (k : Int) := by omega
      have HKL := Lib.hid (And.intro hkl trivial)
      have HS0 : Hid (LyS W wr (ga + 1) ga t (fun j => if j < k then ly t j else if j = k then lyQ t k 0 else 0) (.slice oa (nl t k) oc) (nl t k) (lyN t k)) := Lib.hid (HST.out.same (fun j _ => by rw [lyQ_zero]; by_cases h : j < k <;> simp [h]) fun _ _ => rfl)
      clear HST
      go_wp2
      obtain ⟨G1, hG1⟩ : ∃ G, G = gk := ⟨_, rfl⟩
      subst hG1
      go_loopg [6, 18] k (fun m _ qq wl => ∃ q : Nat, m + q = k ∧ qq = .int .i64 q ∧ LyS W wl (ga + 1) ga t (fun j => if j < k then ly t j else if j = k then lyQ t k q else 0) (.slice oa (nl t k) oc) (nl t k) (lyN t k))
      case atStart => exact ⟨0, by omega, rfl, HS0.out⟩
      case round =>
        clear HS0
        obtain ⟨i, hmi, rfl, hst⟩ := hrel
        have HM2 := Lib.hid hmi
        have HST := Lib.hid hst
        have KW := Lib.hid hst.bel
        have hik : i ≤ k := by omega
        clear hmi hst
        by_cases hil : i < k
        · have hii : (i : Int) < (k : Int) := by omega
          have hit : (i : Int) < t.length := by omega
          have hi0 : (0 : Int) ≤ (i : Int) := by omega
          have HIL := Lib.hid (And.intro hil trivial)
          have hlt : i < t.length := by omega
          obtain ⟨b, off, cap1, s1, c1, hv, hcell, r1⟩ := HR.out.at2 hlt
          injection hv with e1 e2 e3
          subst e1
          obtain ⟨b', off', cap2, s2, c2, hv, hcell', r2⟩ := HR.out.at2 hkl
          injection hv with e1 e2' e3'
          injection e1 with e1
          injection e1 with e1 e4
          subst e1 e4
          have hdi : depI t i k = depE t[i] t[k] := by unfold depI; rw [nthE_eq hlt, nthE_eq hkl]
          have HX := Lib.hid (And.intro hcell r1)
          have HY := Lib.hid (And.intro hcell' r2)
          clear e2 e3 e2' e3' hcell hcell' r1 r2
          generalize t[i] = x at *
          generalize t[k] = y at *
          clear hlt
          by_cases hd : depE x y = true
          · have HD := Lib.hid hd
            have HDI := Lib.hid (hdi.trans hd)
            clear hd hdi
            go_wp2
            refine region_left [.is (.slice (some ⟨b, off, none⟩) t.length cap), .is (.int .i64 (i : Int)), .is (.pointer (some ⟨b, off + i * 2, none⟩)), .is (.agg #[.int .i64 x.1, .slice s1 x.2.length c1]), .is (.slice (some ⟨b, off, none⟩) t.length cap), .is (.int .i64 (k : Int)), .is (.pointer (some ⟨b, off + k * 2, none⟩)), .is (.agg #[.int .i64 y.1, .slice s2 y.2.length c2]), .is (.bool true)] (by kernel_rfl) rfl (by kernel_rfl) (by kernel_rfl) (.cons ?y0 (.cons ?y1 (.cons ?y2 (.cons ?y3 (.cons ?y4 (.cons ?y5 (.cons ?y6 (.cons ?y7 (.cons ?y8 .nil))))))))) ?yfin
            case y0 =>
              intro wq hbw st  K hK
              have KQ := KW.out.trans (hbw.mono KW.out.size)
              simp only [Act.put, List.setIfInBounds_toArray, List.set_cons_zero, List.set_cons_succ] at hK ⊢
              unfold opStep
              rw [if_pos (by rfl)]
              go_simp
              exact hK.out _ _ (Below.refl _ _) rfl _ rfl
            case y1 =>
              intro wq hbw st  K hK
              have KQ := KW.out.trans (hbw.mono KW.out.size)
              simp only [Act.put, List.setIfInBounds_toArray, List.set_cons_zero, List.set_cons_succ] at hK ⊢
              unfold opStep
              rw [if_pos (by rfl)]
              go_simp
              exact hK.out _ _ (Below.refl _ _) rfl _ rfl
            case y2 =>
              intro wq hbw st  K hK
              have KQ := KW.out.trans (hbw.mono KW.out.size)
              simp only [Act.put, List.setIfInBounds_toArray, List.set_cons_zero, List.set_cons_succ] at hK ⊢
              unfold opStep
              rw [if_pos (by rfl)]
              go_simp
              exact hK.out _ _ (Below.refl _ _) rfl _ rfl
            case y3 =>
              intro wq hbw st  K hK
              have KQ := KW.out.trans (hbw.mono KW.out.size)
              simp only [Act.put, List.setIfInBounds_toArray, List.set_cons_zero, List.set_cons_succ] at hK ⊢
              unfold opStep
              rw [if_pos (by rfl)]
              have dd := Lib.hid (HX.out.1 _ KQ)
              have d0 := dd.out.1
              have d1 := dd.out.2
              go_simp
              exact hK.out _ _ (Below.refl _ _) rfl _ rfl
            case y4 =>
              intro wq hbw st  K hK
              have KQ := KW.out.trans (hbw.mono KW.out.size)
              simp only [Act.put, List.setIfInBounds_toArray, List.set_cons_zero, List.set_cons_succ] at hK ⊢
              unfold opStep
              rw [if_pos (by rfl)]
              go_simp
              exact hK.out _ _ (Below.refl _ _) rfl _ rfl
            case y5 =>
              intro wq hbw st  K hK
              have KQ := KW.out.trans (hbw.mono KW.out.size)
              simp only [Act.put, List.setIfInBounds_toArray, List.set_cons_zero, List.set_cons_succ] at hK ⊢
              unfold opStep
              rw [if_pos (by rfl)]
              go_simp
              exact hK.out _ _ (Below.refl _ _) rfl _ rfl
            case y6 =>
              intro wq hbw st  K hK
              have KQ := KW.out.trans (hbw.mono KW.out.size)
              simp only [Act.put, List.setIfInBounds_toArray, List.set_cons_zero, List.set_cons_succ] at hK ⊢
              unfold opStep
              rw [if_pos (by rfl)]
              go_simp
              exact hK.out _ _ (Below.refl _ _) rfl _ rfl
            case y7 =>
              intro wq hbw st  K hK
              have KQ := KW.out.trans (hbw.mono KW.out.size)
              simp only [Act.put, List.setIfInBounds_toArray, List.set_cons_zero, List.set_cons_succ] at hK ⊢
              unfold opStep
              rw [if_pos (by rfl)]
              have dd := Lib.hid (HY.out.1 _ KQ)
              have d0 := dd.out.1
              have d1 := dd.out.2
              go_simp
              exact hK.out _ _ (Below.refl _ _) rfl _ rfl
            case y8 =>
              intro wq hbw st  K hK
              have KQ := KW.out.trans (hbw.mono KW.out.size)
              simp only [Act.put, List.setIfInBounds_toArray, List.set_cons_zero, List.set_cons_succ] at hK ⊢
              unfold opStep
              rw [if_pos (by rfl)]
              go_simp
              have hpc := dep_any _ _ x y wq ⟨_, rfl, HX.out.2.keep KQ⟩ ⟨_, rfl, HY.out.2.keep KQ⟩
              rw [HD.out] at hpc
              refine hpc.mono ?_
              rintro e wz ⟨rfl, hbz⟩
              go_simp
              exact hK.out _ _ hbz rfl _ rfl
            case yfin =>
              intro wq hbw
              try simp only [FinAll]
              simp only [Act.put, List.setIfInBounds_toArray, List.set_cons_zero, List.set_cons_succ]
              have HST2 := Lib.hid (HST.out.on hbw)
              clear hbw HST KW HX HY HD
              have c1 := (HST2.out.la.cell k).trans (rowF_get HKL.out.1)
              have c2 := (HST2.out.la.cell i).trans (rowF_get (show i < t.length by have := HKL.out.1; omega))
              simp only [Nat.lt_irrefl, if_false, if_true] at c1
              simp only [hil, if_true] at c2
              have f1 := HST2.out.la.frozen k
              have l1 := HST2.out.la.lt
              have hb1 := ly_le t i
              have hb2 : lyQ t k i ≤ i := lyQ_le t k i (by omega) fun j _ => ly_le t j
              have HSET := Lib.hid (HST2.out.set k (max (lyQ t k i) (ly t i + 1)) (A' := fun j => if j < k then ly t j else if j = k then lyQ t k (i + 1) else 0) (fun j _ => by
                rw [lyQ_yes HDI.out]
                by_cases e : j = k
                · subst e; simp
                · simp [e]))
              generalize lyQ t k i = a1 at *
              generalize ly t i = a2 at *
              have hmx : max (a1 : Int) ((a2 : Int) + 1) = ((max a1 (a2 + 1) : Nat) : Int) := by omega
              have hni : ¬ i = k := by omega
              have hnk : ¬ k = i := by omega
              clear hil
              go_wp2_with fail
              go_region
              try simp only [hmx]
              go_wp2
              go_roundg (k - (i + 1))
              case measure => have := HM2.out; omega
              case rel => exact ⟨i + 1, by have := HM2.out; have := HIL.out.1; omega, by go_num, (by first | exact HSET.out.on ⟨rfl, rfl, rfl, Nat.le_refl _, fun _ _ => rfl⟩ | (rw [hmx]; exact HSET.out.on ⟨rfl, rfl, rfl, Nat.le_refl _, fun _ _ => rfl⟩))⟩
          · rw [Bool.not_eq_true] at hd
            have HD := Lib.hid hd
            have HDI := Lib.hid (hdi.trans hd)
            clear hd hdi
            go_wp2
            refine region_left [.is (.slice (some ⟨b, off, none⟩) t.length cap), .is (.int .i64 (i : Int)), .is (.pointer (some ⟨b, off + i * 2, none⟩)), .is (.agg #[.int .i64 x.1, .slice s1 x.2.length c1]), .is (.slice (some ⟨b, off, none⟩) t.length cap), .is (.int .i64 (k : Int)), .is (.pointer (some ⟨b, off + k * 2, none⟩)), .is (.agg #[.int .i64 y.1, .slice s2 y.2.length c2]), .is (.bool false)] (by kernel_rfl) rfl (by kernel_rfl) (by kernel_rfl) (.cons ?n0 (.cons ?n1 (.cons ?n2 (.cons ?n3 (.cons ?n4 (.cons ?n5 (.cons ?n6 (.cons ?n7 (.cons ?n8 .nil))))))))) ?nfin
            case n0 =>
              intro wq hbw st  K hK
              have KQ := KW.out.trans (hbw.mono KW.out.size)
              simp only [Act.put, List.setIfInBounds_toArray, List.set_cons_zero, List.set_cons_succ] at hK ⊢
              unfold opStep
              rw [if_pos (by rfl)]
              go_simp
              exact hK.out _ _ (Below.refl _ _) rfl _ rfl
            case n1 =>
              intro wq hbw st  K hK
              have KQ := KW.out.trans (hbw.mono KW.out.size)
              simp only [Act.put, List.setIfInBounds_toArray, List.set_cons_zero, List.set_cons_succ] at hK ⊢
              unfold opStep
              rw [if_pos (by rfl)]
              go_simp
              exact hK.out _ _ (Below.refl _ _) rfl _ rfl
            case n2 =>
              intro wq hbw st  K hK
              have KQ := KW.out.trans (hbw.mono KW.out.size)
              simp only [Act.put, List.setIfInBounds_toArray, List.set_cons_zero, List.set_cons_succ] at hK ⊢
              unfold opStep
              rw [if_pos (by rfl)]
              go_simp
              exact hK.out _ _ (Below.refl _ _) rfl _ rfl
            case n3 =>
              intro wq hbw st  K hK
              have KQ := KW.out.trans (hbw.mono KW.out.size)
              simp only [Act.put, List.setIfInBounds_toArray, List.set_cons_zero, List.set_cons_succ] at hK ⊢
              unfold opStep
              rw [if_pos (by rfl)]
              have dd := Lib.hid (HX.out.1 _ KQ)
              have d0 := dd.out.1
              have d1 := dd.out.2
              go_simp
              exact hK.out _ _ (Below.refl _ _) rfl _ rfl
            case n4 =>
              intro wq hbw st  K hK
              have KQ := KW.out.trans (hbw.mono KW.out.size)
              simp only [Act.put, List.setIfInBounds_toArray, List.set_cons_zero, List.set_cons_succ] at hK ⊢
              unfold opStep
              rw [if_pos (by rfl)]
              go_simp
              exact hK.out _ _ (Below.refl _ _) rfl _ rfl
            case n5 =>
              intro wq hbw st  K hK
              have KQ := KW.out.trans (hbw.mono KW.out.size)
              simp only [Act.put, List.setIfInBounds_toArray, List.set_cons_zero, List.set_cons_succ] at hK ⊢
              unfold opStep
              rw [if_pos (by rfl)]
              go_simp
              exact hK.out _ _ (Below.refl _ _) rfl _ rfl
            case n6 =>
              intro wq hbw st  K hK
              have KQ := KW.out.trans (hbw.mono KW.out.size)
              simp only [Act.put, List.setIfInBounds_toArray, List.set_cons_zero, List.set_cons_succ] at hK ⊢
              unfold opStep
              rw [if_pos (by rfl)]
              go_simp
              exact hK.out _ _ (Below.refl _ _) rfl _ rfl
            case n7 =>
              intro wq hbw st  K hK
              have KQ := KW.out.trans (hbw.mono KW.out.size)
              simp only [Act.put, List.setIfInBounds_toArray, List.set_cons_zero, List.set_cons_succ] at hK ⊢
              unfold opStep
              rw [if_pos (by rfl)]
              have dd := Lib.hid (HY.out.1 _ KQ)
              have d0 := dd.out.1
              have d1 := dd.out.2
              go_simp
              exact hK.out _ _ (Below.refl _ _) rfl _ rfl
            case n8 =>
              intro wq hbw st  K hK
              have KQ := KW.out.trans (hbw.mono KW.out.size)
              simp only [Act.put, List.setIfInBounds_toArray, List.set_cons_zero, List.set_cons_succ] at hK ⊢
              unfold opStep
              rw [if_pos (by rfl)]
              go_simp
              have hpc := dep_any _ _ x y wq ⟨_, rfl, HX.out.2.keep KQ⟩ ⟨_, rfl, HY.out.2.keep KQ⟩
              rw [HD.out] at hpc
              refine hpc.mono ?_
              rintro e wz ⟨rfl, hbz⟩
              go_simp
              exact hK.out _ _ hbz rfl _ rfl
            case nfin =>
              intro wq hbw
              try simp only [FinAll]
              simp only [Act.put, List.setIfInBounds_toArray, List.set_cons_zero, List.set_cons_succ]
              have HST2 := Lib.hid (HST.out.on hbw)
              clear hbw HST KW HX HY HD
              have HS3 := Lib.hid (HST2.out.same (A' := fun j => if j < k then ly t j else if j = k then lyQ t k (i + 1) else 0) (fun j _ => by rw [lyQ_no HDI.out]) fun _ _ => rfl)
              go_wp2
              go_roundg (k - (i + 1))
              case measure => have := HM2.out; omega
              case rel => exact ⟨i + 1, by have := HM2.out; have := HIL.out.1; omega, by go_num, HS3.out⟩
        · have e : k = i := by omega
          subst e
          have HS1 : Hid (LyS W wr (ga + 1) ga t (fun j => if j < k + 1 then ly t j else 0) (.slice oa (nl t k) oc) (nl t k) (lyN t k)) := Lib.hid (HST.out.same (fun j _ => by
            rw [← ly_eq]
            by_cases e : j = k
            · subst e; simp
            · by_cases h : j < k
              · simp [h, show j < k + 1 by omega]
              · simp [h, e, show ¬ j < k + 1 by omega]) fun _ _ => rfl)
          have c1 := (HS1.out.la.cell k).trans (rowF_get HKL.out.1)
          simp only [Nat.lt_succ_self, if_true] at c1
          have hnl := nl_succ t k
          have hle := ly_nl t k
          have hnk := nl_le t k
          clear HST KW
          by_cases hnew : ly t k = nl t k
          · have e1 : (((ly t k : Nat) : Int) == ((nl t k : Nat) : Int)) = true := beq_t (by omega)
            have HNL : Hid (nl t (k + 1) = nl t k + 1) := Lib.hid (by omega)
            have HLM : Hid (ly t k < nl t k + 1) := Lib.hid (by omega)
            clear hnl hnew hle
            go_wp2_with (at_builtin; refine append_nil_row (B := ga + 1) rfl _ _ rfl (.slice oa (nl t k) oc) (nl t k) (lyN t k) wr.heap.size rfl (HS1.out.out.on ((Below.refl _ _).alloc (Nat.le_refl _) _)) (lyN_none (Nat.le_refl _)) rfl (Blk.new _ _ _) (by omega) (by have := HS1.out.ord.2.2; simp; omega) ?_)
            intro v' w3 ho3 hk3
            have hq3 := ho3
            obtain ⟨f3, hf3, -⟩ := hq3
            obtain ⟨oa2, oc2, rfl⟩ := row_slc hf3
            clear hf3
            have HS2 : Hid (LyS W w3 (ga + 1) ga t (fun j => if j < k + 1 then ly t j else 0) (.slice oa2 (nl t k + 1) oc2) (nl t k + 1) (lyN t k)) := Lib.hid (by
              have hal : Below wr.heap.size wr (wr.alloc (.cells #[.slice none 0 0] 25)) := (Below.refl _ _).alloc (Nat.le_refl _) _
              have hl1 := HS1.out.on hal
              exact ⟨hk3.blk hl1.la (by omega), ho3, hl1.bel.trans (hk3.below hl1.bel.size fun b hb => by have := HS1.out.ord.1; omega), hl1.ord.1, hl1.ord.2.1, Nat.le_trans hl1.ord.2.2 hk3.size⟩)
            clear ho3 hk3 HS1 c1
            obtain ⟨f, hrow, hin, hdis⟩ := HS2.out.out
            obtain ⟨g, rfl, hgB⟩ := row_addr hrow (by have := HLM.out; omega)
            have HROW := Lib.hid (And.intro hrow (And.intro hin (And.intro hdis hgB)))
            have hinl := hin _ HLM.out
            have HINL := Lib.hid hinl
            obtain ⟨ra, rc, hra⟩ := row_slc hinl
            have HRA := Lib.hid hra
            have hxl := lyN_len t k (ly t k)
            have HXL := Lib.hid hxl
            have hlm := HLM.out
            have hlmi : ((ly t k : Nat) : Int) < ((nl t k + 1 : Nat) : Int) := by omega
            have hlm0 : (0 : Int) ≤ ((ly t k : Nat) : Int) := by omega
            have hlq := ly_nl t k
            have hlq1 : ((ly t k : Nat) : Int) ≤ ((nl t k : Nat) : Int) := by omega
            have hlq2 : ((ly t k : Nat) : Int) < ((nl t k : Nat) : Int) + 1 := by omega
            clear hlm
            obtain ⟨b, off, cap1, s1, c1, hv, hcell, r1⟩ := HR.out.at2 HKL.out.1
            injection hv with e1 e2 e3
            subst e1
            have HNM : Hid (nmI t k = t[k].1) := Lib.hid (by unfold nmI; rw [nthE_eq HKL.out.1])
            have HCELL := Lib.hid hcell
            clear e2 e3 hcell r1 hrow hin hdis hgB hinl hra hxl
            generalize t[k]'HKL.out.1 = x at *
            have HLOW : Hid (∀ wq, Kept (fun b => some b = (f (ly t k)).ownBlock) w3 wq → Blk wq ga 3 (rowF t.length fun j => .int .i64 (((if j < k + 1 then ly t j else 0 : Nat)) : Int)) ∧ wq.ownsRow (ga + 1) 25 1 (.slice (some ⟨g, 0, none⟩) (nl t k + 1) (oc2)) (nl t k + 1) ((List.range (nl t k + 1)).map f) ∧ Below W.heap.size W wq) := Lib.hid fun wq hk => by
              have hS : ∀ b, some b = (f (ly t k)).ownBlock → ga + 1 ≤ b := fun b hb => (HINL.out.lt b hb.symm).1
              have hW : W.heap.size ≤ ga := HS2.out.ord.1
              refine ⟨hk.blk HS2.out.la fun q => by have := hS _ q; omega, hk.row HROW.out.1 fun b hb q => ?_, HS2.out.bel.trans (hk.below HS2.out.bel.size fun b hb q => by have := hS b q; omega)⟩
              rcases rows_ne HINL.out HROW.out.1 (by decide) with q' | q'
              · rw [q'] at q; cases q
              · exact q' (by rw [← q, ← hb])
            go_wp2_with fail
            refine region_inv W.heap.size (JB (ga + 1) 17 18 20 w3 (f (ly t k)) (lyN t k (ly t k)).length ((lyN t k (ly t k)).map vi) (vi x.1) (fun w => LyS W w (ga + 1) ga t (fun j => if j < k + 1 then ly t j else 0) (.slice (some ⟨g, 0, none⟩) (nl t k + 1) (oc2)) (nl t k + 1) (lyN t (k + 1)))) [some (.slice (some ⟨g, 0, none⟩) (nl t k + 1) (oc2)), some (.slice (some ⟨ga, 0, none⟩) t.length t.length), some (.int .i64 (k : Int)), some (.pointer (some ⟨ga, k, none⟩)), some (.int .i64 ((ly t k : Nat) : Int)), some (.slice (some ⟨g, 0, none⟩) (nl t k + 1) (oc2)), some (.slice (some ⟨ga, 0, none⟩) t.length t.length), some (.int .i64 (k : Int)), some (.pointer (some ⟨ga, k, none⟩)), some (.int .i64 ((ly t k : Nat) : Int)), some (.pointer (some ⟨g, ly t k, none⟩)), some (.slice ra (lyN t k (ly t k)).length rc), some (.slice (some ⟨b, off, none⟩) t.length cap), some (.int .i64 (k : Int)), some (.pointer (some ⟨b, off + k * 2, none⟩)), some (.pointer (some ⟨b, off + k * 2, none⟩)), some (.int .i64 x.1), none, none, some (.pointer (some ⟨g, ly t k, none⟩)), none] (by kernel_rfl) rfl (by kernel_rfl) (by kernel_rfl) (JB.start HINL.out) (.cons ?zn100 (.cons ?zn101 (.cons ?zn102 (.cons ?zn103 (.cons ?zn104 (.cons ?zn105 (.cons ?zn106 (.cons ?zn107 (.cons ?zn108 (.cons ?zn109 (.cons ?zn1010 (.cons ?zn1011 (.cons ?zn1012 (.cons ?zn1013 (.cons ?zn1014 (.cons ?zn1015 (.cons ?zn1016 (.cons ?zn1017 (.cons ?zn1018 (.cons ?zn1019 (.cons ?zn1020 .nil))))))))))))))))))))) ?zn10fin
            case zn100 =>
              intro wq hbw D st hJ hD hdp K hK
              have hop := hJ.open_ (i := 0) (by decide) hD
              have hlow := HLOW.out wq hop.2
              simp only [Act.put, List.setIfInBounds_toArray, List.set_cons_zero, List.set_cons_succ] at hK ⊢
              unfold opStep
              rw [if_pos (by rfl)]
              go_simp
              exact hK.out _ _ (Below.refl _ _) (fun u hu => Option.some.inj hu) (hJ.pure 0 _ (by decide) (by decide) (by decide)) _ rfl
            case zn101 =>
              intro wq hbw D st hJ hD hdp K hK
              have hop := hJ.open_ (i := 1) (by decide) hD
              have hlow := HLOW.out wq hop.2
              simp only [Act.put, List.setIfInBounds_toArray, List.set_cons_zero, List.set_cons_succ] at hK ⊢
              unfold opStep
              rw [if_pos (by rfl)]
              go_simp
              exact hK.out _ _ (Below.refl _ _) (fun u hu => Option.some.inj hu) (hJ.pure 1 _ (by decide) (by decide) (by decide)) _ rfl
            case zn102 =>
              intro wq hbw D st hJ hD hdp K hK
              have hop := hJ.open_ (i := 2) (by decide) hD
              have hlow := HLOW.out wq hop.2
              simp only [Act.put, List.setIfInBounds_toArray, List.set_cons_zero, List.set_cons_succ] at hK ⊢
              unfold opStep
              rw [if_pos (by rfl)]
              go_simp
              exact hK.out _ _ (Below.refl _ _) (fun u hu => Option.some.inj hu) (hJ.pure 2 _ (by decide) (by decide) (by decide)) _ rfl
            case zn103 =>
              intro wq hbw D st hJ hD hdp K hK
              have hop := hJ.open_ (i := 3) (by decide) hD
              have hlow := HLOW.out wq hop.2
              simp only [Act.put, List.setIfInBounds_toArray, List.set_cons_zero, List.set_cons_succ] at hK ⊢
              unfold opStep
              rw [if_pos (by rfl)]
              go_simp
              exact hK.out _ _ (Below.refl _ _) (fun u hu => Option.some.inj hu) (hJ.pure 3 _ (by decide) (by decide) (by decide)) _ rfl
            case zn104 =>
              intro wq hbw D st hJ hD hdp K hK
              have hop := hJ.open_ (i := 4) (by decide) hD
              have hlow := HLOW.out wq hop.2
              simp only [Act.put, List.setIfInBounds_toArray, List.set_cons_zero, List.set_cons_succ] at hK ⊢
              unfold opStep
              rw [if_pos (by rfl)]
              have cl := (hlow.1.cell k).trans (rowF_get HKL.out.1)
              simp only [Nat.lt_succ_self, if_true] at cl
              go_simp
              exact hK.out _ _ (Below.refl _ _) (fun u hu => Option.some.inj hu) (hJ.pure 4 _ (by decide) (by decide) (by decide)) _ rfl
            case zn105 =>
              intro wq hbw D st hJ hD hdp K hK
              have hop := hJ.open_ (i := 5) (by decide) hD
              have hlow := HLOW.out wq hop.2
              simp only [Act.put, List.setIfInBounds_toArray, List.set_cons_zero, List.set_cons_succ] at hK ⊢
              unfold opStep
              rw [if_pos (by rfl)]
              go_simp
              exact hK.out _ _ (Below.refl _ _) (fun u hu => Option.some.inj hu) (hJ.pure 5 _ (by decide) (by decide) (by decide)) _ rfl
            case zn106 =>
              intro wq hbw D st hJ hD hdp K hK
              have hop := hJ.open_ (i := 6) (by decide) hD
              have hlow := HLOW.out wq hop.2
              simp only [Act.put, List.setIfInBounds_toArray, List.set_cons_zero, List.set_cons_succ] at hK ⊢
              unfold opStep
              rw [if_pos (by rfl)]
              go_simp
              exact hK.out _ _ (Below.refl _ _) (fun u hu => Option.some.inj hu) (hJ.pure 6 _ (by decide) (by decide) (by decide)) _ rfl
            case zn107 =>
              intro wq hbw D st hJ hD hdp K hK
              have hop := hJ.open_ (i := 7) (by decide) hD
              have hlow := HLOW.out wq hop.2
              simp only [Act.put, List.setIfInBounds_toArray, List.set_cons_zero, List.set_cons_succ] at hK ⊢
              unfold opStep
              rw [if_pos (by rfl)]
              go_simp
              exact hK.out _ _ (Below.refl _ _) (fun u hu => Option.some.inj hu) (hJ.pure 7 _ (by decide) (by decide) (by decide)) _ rfl
            case zn108 =>
              intro wq hbw D st hJ hD hdp K hK
              have hop := hJ.open_ (i := 8) (by decide) hD
              have hlow := HLOW.out wq hop.2
              simp only [Act.put, List.setIfInBounds_toArray, List.set_cons_zero, List.set_cons_succ] at hK ⊢
              unfold opStep
              rw [if_pos (by rfl)]
              go_simp
              exact hK.out _ _ (Below.refl _ _) (fun u hu => Option.some.inj hu) (hJ.pure 8 _ (by decide) (by decide) (by decide)) _ rfl
            case zn109 =>
              intro wq hbw D st hJ hD hdp K hK
              have hop := hJ.open_ (i := 9) (by decide) hD
              have hlow := HLOW.out wq hop.2
              simp only [Act.put, List.setIfInBounds_toArray, List.set_cons_zero, List.set_cons_succ] at hK ⊢
              unfold opStep
              rw [if_pos (by rfl)]
              have cl := (hlow.1.cell k).trans (rowF_get HKL.out.1)
              simp only [Nat.lt_succ_self, if_true] at cl
              go_simp
              exact hK.out _ _ (Below.refl _ _) (fun u hu => Option.some.inj hu) (hJ.pure 9 _ (by decide) (by decide) (by decide)) _ rfl
            case zn1010 =>
              intro wq hbw D st hJ hD hdp K hK
              have hop := hJ.open_ (i := 10) (by decide) hD
              have hlow := HLOW.out wq hop.2
              simp only [Act.put, List.setIfInBounds_toArray, List.set_cons_zero, List.set_cons_succ] at hK ⊢
              unfold opStep
              rw [if_pos (by rfl)]
              go_simp
              exact hK.out _ _ (Below.refl _ _) (fun u hu => Option.some.inj hu) (hJ.pure 10 _ (by decide) (by decide) (by decide)) _ rfl
            case zn1011 =>
              intro wq hbw D st hJ hD hdp K hK
              have hop := hJ.open_ (i := 11) (by decide) hD
              have hlow := HLOW.out wq hop.2
              simp only [Act.put, List.setIfInBounds_toArray, List.set_cons_zero, List.set_cons_succ] at hK ⊢
              unfold opStep
              rw [if_pos (by rfl)]
              have co := (row_cell hlow.2.1 (u := f (ly t k)) (by rw [List.getElem?_map, List.getElem?_range HLM.out]; rfl)).1
              rw [HRA.out] at co
              go_simp
              exact hK.out _ _ (Below.refl _ _) (fun u hu => Option.some.inj hu) (hJ.pure 11 _ (by decide) (by decide) (by decide)) _ rfl
            case zn1012 =>
              intro wq hbw D st hJ hD hdp K hK
              have hop := hJ.open_ (i := 12) (by decide) hD
              have hlow := HLOW.out wq hop.2
              simp only [Act.put, List.setIfInBounds_toArray, List.set_cons_zero, List.set_cons_succ] at hK ⊢
              unfold opStep
              rw [if_pos (by rfl)]
              go_simp
              exact hK.out _ _ (Below.refl _ _) (fun u hu => Option.some.inj hu) (hJ.pure 12 _ (by decide) (by decide) (by decide)) _ rfl
            case zn1013 =>
              intro wq hbw D st hJ hD hdp K hK
              have hop := hJ.open_ (i := 13) (by decide) hD
              have hlow := HLOW.out wq hop.2
              simp only [Act.put, List.setIfInBounds_toArray, List.set_cons_zero, List.set_cons_succ] at hK ⊢
              unfold opStep
              rw [if_pos (by rfl)]
              go_simp
              exact hK.out _ _ (Below.refl _ _) (fun u hu => Option.some.inj hu) (hJ.pure 13 _ (by decide) (by decide) (by decide)) _ rfl
            case zn1014 =>
              intro wq hbw D st hJ hD hdp K hK
              have hop := hJ.open_ (i := 14) (by decide) hD
              have hlow := HLOW.out wq hop.2
              simp only [Act.put, List.setIfInBounds_toArray, List.set_cons_zero, List.set_cons_succ] at hK ⊢
              unfold opStep
              rw [if_pos (by rfl)]
              go_simp
              exact hK.out _ _ (Below.refl _ _) (fun u hu => Option.some.inj hu) (hJ.pure 14 _ (by decide) (by decide) (by decide)) _ rfl
            case zn1015 =>
              intro wq hbw D st hJ hD hdp K hK
              have hop := hJ.open_ (i := 15) (by decide) hD
              have hlow := HLOW.out wq hop.2
              simp only [Act.put, List.setIfInBounds_toArray, List.set_cons_zero, List.set_cons_succ] at hK ⊢
              unfold opStep
              rw [if_pos (by rfl)]
              go_simp
              exact hK.out _ _ (Below.refl _ _) (fun u hu => Option.some.inj hu) (hJ.pure 15 _ (by decide) (by decide) (by decide)) _ rfl
            case zn1016 =>
              intro wq hbw D st hJ hD hdp K hK
              have hop := hJ.open_ (i := 16) (by decide) hD
              have hlow := HLOW.out wq hop.2
              simp only [Act.put, List.setIfInBounds_toArray, List.set_cons_zero, List.set_cons_succ] at hK ⊢
              unfold opStep
              rw [if_pos (by rfl)]
              have cx := (HCELL.out wq hlow.2.2).1
              go_simp
              exact hK.out _ _ (Below.refl _ _) (fun u hu => Option.some.inj hu) (hJ.pure 16 _ (by decide) (by decide) (by decide)) _ rfl
            case zn1017 =>
              intro wq hbw D st hJ hD hdp K hK
              have hop := hJ.open_ (i := 17) (by decide) hD
              have hlow := HLOW.out wq hop.2
              simp only [Act.put, List.setIfInBounds_toArray, List.set_cons_zero, List.set_cons_succ] at hK ⊢
              unfold opStep
              rw [if_pos (by rfl)]
              go_simp
              have k1 := hJ.made hD (by decide) (by decide)
              exact hK.out _ _ ((Below.refl _ _).alloc (Nat.le_trans HS2.out.bel.size hop.2.size) _) (fun u hu => by cases hu) k1 _ rfl
            case zn1018 =>
              intro wq hbw D st hJ hD hdp K hK
              have hop := hJ.open_ (i := 18) (by decide) hD
              have hlow := HLOW.out wq hop.2
              simp only [Act.put, List.setIfInBounds_toArray, List.set_cons_zero, List.set_cons_succ] at hK ⊢
              unfold opStep
              rw [if_pos (by rfl)]
              have d17 := hdp 17 (of_decide_eq_true (by kernel_rfl))
              obtain ⟨g2, hg2, hB2⟩ := hJ.2.2.2.2.1 d17 hD
              rw [hg2] at hK ⊢
              have hrow2 := hJ.2.2.2.1 hD
              rw [HRA.out] at hrow2 hJ
              refine wp_append_blkI (.tmp 65) (.tmp 71) rfl (ga + 1) (.slice ra (lyN t k (ly t k)).length rc) (vi x.1) (lyN t k (ly t k)).length ((lyN t k (ly t k)).map vi) g2 rfl rfl rfl hrow2 hB2 (by have := HXL.out; omega) (by have := HS2.out.ord.2.2; have := hop.2.size; omega) ?_
              intro v5 w5 h5 hg5 hv5
              have k1 := hJ.more hD d17 (by decide) (by decide) h5 hg5 hv5
              exact hK.out _ _ ⟨hg5.os, hg5.tape, hg5.output, hg5.size, fun i hi => hg5.block i (by have := HS2.out.bel.size; have := hop.2.size; omega) (fun q => by have := (hrow2.lt i q.symm).1; have := HS2.out.ord.1; omega)⟩ (fun u hu => by cases hu) (by rw [HRA.out]; exact k1) _ rfl
            case zn1019 =>
              intro wq hbw D st hJ hD hdp K hK
              have hop := hJ.open_ (i := 19) (by decide) hD
              have hlow := HLOW.out wq hop.2
              simp only [Act.put, List.setIfInBounds_toArray, List.set_cons_zero, List.set_cons_succ] at hK ⊢
              unfold opStep
              rw [if_pos (by rfl)]
              go_simp
              exact hK.out _ _ (Below.refl _ _) (fun u hu => Option.some.inj hu) (hJ.pure 19 _ (by decide) (by decide) (by decide)) _ rfl
            case zn1020 =>
              intro wq hbw D st hJ hD hdp K hK
              simp only [Act.put, List.setIfInBounds_toArray, List.set_cons_zero, List.set_cons_succ] at hK ⊢
              unfold opStep
              rw [if_pos (by rfl)]
              have hall : ∀ j, j < 20 → D j = true := all_of (n := 20) (by kernel_rfl) hdp
              have hA := hall 18 (by decide)
              have hr5 := hJ.2.2.2.2.2.1 hA hD
              obtain ⟨a5, c5, e5⟩ := row_slc hr5.1
              rw [e5] at hK hr5 ⊢
              have hk5 := hJ.2.2.1 hD
              have hlow := HLOW.out wq hk5
              have hrc := row_cell hlow.2.1 (u := f (ly t k)) (by rw [List.getElem?_map, List.getElem?_range HLM.out]; rfl)
              have co := hrc.1
              have fo := hrc.2.1
              have lo := hrc.2.2
              have HF : Hid (LyS W (wq.setCell ⟨g, ly t k, none⟩ (.slice a5 ((lyN t k (ly t k)).length + 1) c5)) (ga + 1) ga t (fun j => if j < k + 1 then ly t j else 0) (.slice (some ⟨g, 0, none⟩) (nl t k + 1) (oc2)) (nl t k + 1) (lyN t (k + 1))) := Lib.hid (by
                have hit := OutL.item HROW.out.1 HROW.out.2.1 HROW.out.2.2.1 HLM.out hk5 hr5.1 hr5.2
                have hkg : Kept (fun b => b = g) wq (wq.setCell ⟨g, ly t k, none⟩ (.slice a5 ((lyN t k (ly t k)).length + 1) c5)) := Kept.set _ rfl
                have hgB := HROW.out.2.2.2
                refine ⟨hkg.blk hlow.1 (by omega), hit.same fun l _ => ?_, hlow.2.2.setCell (p := ⟨g, ly t k, none⟩) (by show W.heap.size ≤ g; have := HS2.out.ord.1; omega) _, HS2.out.ord.1, HS2.out.ord.2.1, by have := HS2.out.ord.2.2; have := hk5.size; simp [World.setCell]; omega⟩
                by_cases e : l = ly t k
                · subst e; rw [if_pos rfl, lyN_yes, HNM.out]
                · rw [if_neg e, lyN_no e])
              go_simp
              exact hK.out _ _ ((Below.refl _ _).setCell (p := ⟨g, ly t k, none⟩) (by show W.heap.size ≤ g; have := HROW.out.2.2.2; have := HS2.out.ord.1; omega) _) (fun u hu => by cases hu) (hJ.fin hall hA (by decide) (by decide) HF.out) _ rfl
            case zn10fin =>
              intro wq hbw D st hall hJ
              simp only [FinAll, lfOf]
              simp only [Act.put, List.setIfInBounds_toArray, List.set_cons_zero, List.set_cons_succ]
              skip
              have HN4 := Lib.hid (hJ.2.2.2.2.2.2 (hall 20 (by decide)))
              clear hJ hall HROW HINL HLOW HS2
              generalize st 17 = x17
              generalize st 18 = x18
              go_wp2
              go_roundg (t.length - (k + 1))
              case measure => have := HM.out; omega
              case rel => exact ⟨k + 1, by have := HM.out; have := HKL.out.1; omega, by go_num, by rw [HNL.out]; exact HN4.out⟩
          · have e1 : (((ly t k : Nat) : Int) == ((nl t k : Nat) : Int)) = false := beq_f (by omega)
            have HNL : Hid (nl t (k + 1) = nl t k) := Lib.hid (by omega)
            have HLM : Hid (ly t k < nl t k) := Lib.hid (by omega)
            clear hnl hnew hle
            go_wp2
            obtain ⟨w3, hw3⟩ : ∃ w3, w3 = wr := ⟨_, rfl⟩
            subst hw3
            have HS2 := Lib.hid HS1.out
            clear HS1 c1
            obtain ⟨f, hrow, hin, hdis⟩ := HS2.out.out
            obtain ⟨g, rfl, hgB⟩ := row_addr hrow (by have := HLM.out; omega)
            have HROW := Lib.hid (And.intro hrow (And.intro hin (And.intro hdis hgB)))
            have hinl := hin _ HLM.out
            have HINL := Lib.hid hinl
            obtain ⟨ra, rc, hra⟩ := row_slc hinl
            have HRA := Lib.hid hra
            have hxl := lyN_len t k (ly t k)
            have HXL := Lib.hid hxl
            have hlm := HLM.out
            have hlmi : ((ly t k : Nat) : Int) < ((nl t k : Nat) : Int) := by omega
            have hlm0 : (0 : Int) ≤ ((ly t k : Nat) : Int) := by omega
            have hlq := ly_nl t k
            have hlq1 : ((ly t k : Nat) : Int) ≤ ((nl t k : Nat) : Int) := by omega
            have hlq2 : ((ly t k : Nat) : Int) < ((nl t k : Nat) : Int) + 1 := by omega
            clear hlm
            obtain ⟨b, off, cap1, s1, c1, hv, hcell, r1⟩ := HR.out.at2 HKL.out.1
            injection hv with e1 e2 e3
            subst e1
            have HNM : Hid (nmI t k = t[k].1) := Lib.hid (by unfold nmI; rw [nthE_eq HKL.out.1])
            have HCELL := Lib.hid hcell
            clear e2 e3 hcell r1 hrow hin hdis hgB hinl hra hxl
            generalize t[k]'HKL.out.1 = x at *
            have HLOW : Hid (∀ wq, Kept (fun b => some b = (f (ly t k)).ownBlock) w3 wq → Blk wq ga 3 (rowF t.length fun j => .int .i64 (((if j < k + 1 then ly t j else 0 : Nat)) : Int)) ∧ wq.ownsRow (ga + 1) 25 1 (.slice (some ⟨g, 0, none⟩) (nl t k) (oc)) (nl t k) ((List.range (nl t k)).map f) ∧ Below W.heap.size W wq) := Lib.hid fun wq hk => by
              have hS : ∀ b, some b = (f (ly t k)).ownBlock → ga + 1 ≤ b := fun b hb => (HINL.out.lt b hb.symm).1
              have hW : W.heap.size ≤ ga := HS2.out.ord.1
              refine ⟨hk.blk HS2.out.la fun q => by have := hS _ q; omega, hk.row HROW.out.1 fun b hb q => ?_, HS2.out.bel.trans (hk.below HS2.out.bel.size fun b hb q => by have := hS b q; omega)⟩
              rcases rows_ne HINL.out HROW.out.1 (by decide) with q' | q'
              · rw [q'] at q; cases q
              · exact q' (by rw [← q, ← hb])
            go_wp2_with fail
            refine region_inv W.heap.size (JB (ga + 1) 17 18 20 w3 (f (ly t k)) (lyN t k (ly t k)).length ((lyN t k (ly t k)).map vi) (vi x.1) (fun w => LyS W w (ga + 1) ga t (fun j => if j < k + 1 then ly t j else 0) (.slice (some ⟨g, 0, none⟩) (nl t k) (oc)) (nl t k) (lyN t (k + 1)))) [some (.slice (some ⟨g, 0, none⟩) (nl t k) (oc)), some (.slice (some ⟨ga, 0, none⟩) t.length t.length), some (.int .i64 (k : Int)), some (.pointer (some ⟨ga, k, none⟩)), some (.int .i64 ((ly t k : Nat) : Int)), some (.slice (some ⟨g, 0, none⟩) (nl t k) (oc)), some (.slice (some ⟨ga, 0, none⟩) t.length t.length), some (.int .i64 (k : Int)), some (.pointer (some ⟨ga, k, none⟩)), some (.int .i64 ((ly t k : Nat) : Int)), some (.pointer (some ⟨g, ly t k, none⟩)), some (.slice ra (lyN t k (ly t k)).length rc), some (.slice (some ⟨b, off, none⟩) t.length cap), some (.int .i64 (k : Int)), some (.pointer (some ⟨b, off + k * 2, none⟩)), some (.pointer (some ⟨b, off + k * 2, none⟩)), some (.int .i64 x.1), none, none, some (.pointer (some ⟨g, ly t k, none⟩)), none] (by kernel_rfl) rfl (by kernel_rfl) (by kernel_rfl) (JB.start HINL.out) (.cons ?zn60 (.cons ?zn61 (.cons ?zn62 (.cons ?zn63 (.cons ?zn64 (.cons ?zn65 (.cons ?zn66 (.cons ?zn67 (.cons ?zn68 (.cons ?zn69 (.cons ?zn610 (.cons ?zn611 (.cons ?zn612 (.cons ?zn613 (.cons ?zn614 (.cons ?zn615 (.cons ?zn616 (.cons ?zn617 (.cons ?zn618 (.cons ?zn619 (.cons ?zn620 .nil))))))))))))))))))))) ?zn6fin
            case zn60 =>
              intro wq hbw D st hJ hD hdp K hK
              have hop := hJ.open_ (i := 0) (by decide) hD
              have hlow := HLOW.out wq hop.2
              simp only [Act.put, List.setIfInBounds_toArray, List.set_cons_zero, List.set_cons_succ] at hK ⊢
              unfold opStep
              rw [if_pos (by rfl)]
              go_simp
              exact hK.out _ _ (Below.refl _ _) (fun u hu => Option.some.inj hu) (hJ.pure 0 _ (by decide) (by decide) (by decide)) _ rfl
            case zn61 =>
              intro wq hbw D st hJ hD hdp K hK
              have hop := hJ.open_ (i := 1) (by decide) hD
              have hlow := HLOW.out wq hop.2
              simp only [Act.put, List.setIfInBounds_toArray, List.set_cons_zero, List.set_cons_succ] at hK ⊢
              unfold opStep
              rw [if_pos (by rfl)]
              go_simp
              exact hK.out _ _ (Below.refl _ _) (fun u hu => Option.some.inj hu) (hJ.pure 1 _ (by decide) (by decide) (by decide)) _ rfl
            case zn62 =>
              intro wq hbw D st hJ hD hdp K hK
              have hop := hJ.open_ (i := 2) (by decide) hD
              have hlow := HLOW.out wq hop.2
              simp only [Act.put, List.setIfInBounds_toArray, List.set_cons_zero, List.set_cons_succ] at hK ⊢
              unfold opStep
              rw [if_pos (by rfl)]
              go_simp
              exact hK.out _ _ (Below.refl _ _) (fun u hu => Option.some.inj hu) (hJ.pure 2 _ (by decide) (by decide) (by decide)) _ rfl
            case zn63 =>
              intro wq hbw D st hJ hD hdp K hK
              have hop := hJ.open_ (i := 3) (by decide) hD
              have hlow := HLOW.out wq hop.2
              simp only [Act.put, List.setIfInBounds_toArray, List.set_cons_zero, List.set_cons_succ] at hK ⊢
              unfold opStep
              rw [if_pos (by rfl)]
              go_simp
              exact hK.out _ _ (Below.refl _ _) (fun u hu => Option.some.inj hu) (hJ.pure 3 _ (by decide) (by decide) (by decide)) _ rfl
            case zn64 =>
              intro wq hbw D st hJ hD hdp K hK
              have hop := hJ.open_ (i := 4) (by decide) hD
              have hlow := HLOW.out wq hop.2
              simp only [Act.put, List.setIfInBounds_toArray, List.set_cons_zero, List.set_cons_succ] at hK ⊢
              unfold opStep
              rw [if_pos (by rfl)]
              have cl := (hlow.1.cell k).trans (rowF_get HKL.out.1)
              simp only [Nat.lt_succ_self, if_true] at cl
              go_simp
              exact hK.out _ _ (Below.refl _ _) (fun u hu => Option.some.inj hu) (hJ.pure 4 _ (by decide) (by decide) (by decide)) _ rfl
            case zn65 =>
              intro wq hbw D st hJ hD hdp K hK
              have hop := hJ.open_ (i := 5) (by decide) hD
              have hlow := HLOW.out wq hop.2
              simp only [Act.put, List.setIfInBounds_toArray, List.set_cons_zero, List.set_cons_succ] at hK ⊢
              unfold opStep
              rw [if_pos (by rfl)]
              go_simp
              exact hK.out _ _ (Below.refl _ _) (fun u hu => Option.some.inj hu) (hJ.pure 5 _ (by decide) (by decide) (by decide)) _ rfl
            case zn66 =>
              intro wq hbw D st hJ hD hdp K hK
              have hop := hJ.open_ (i := 6) (by decide) hD
              have hlow := HLOW.out wq hop.2
              simp only [Act.put, List.setIfInBounds_toArray, List.set_cons_zero, List.set_cons_succ] at hK ⊢
              unfold opStep
              rw [if_pos (by rfl)]
              go_simp
              exact hK.out _ _ (Below.refl _ _) (fun u hu => Option.some.inj hu) (hJ.pure 6 _ (by decide) (by decide) (by decide)) _ rfl
            case zn67 =>
              intro wq hbw D st hJ hD hdp K hK
              have hop := hJ.open_ (i := 7) (by decide) hD
              have hlow := HLOW.out wq hop.2
              simp only [Act.put, List.setIfInBounds_toArray, List.set_cons_zero, List.set_cons_succ] at hK ⊢
              unfold opStep
              rw [if_pos (by rfl)]
              go_simp
              exact hK.out _ _ (Below.refl _ _) (fun u hu => Option.some.inj hu) (hJ.pure 7 _ (by decide) (by decide) (by decide)) _ rfl
            case zn68 =>
              intro wq hbw D st hJ hD hdp K hK
              have hop := hJ.open_ (i := 8) (by decide) hD
              have hlow := HLOW.out wq hop.2
              simp only [Act.put, List.setIfInBounds_toArray, List.set_cons_zero, List.set_cons_succ] at hK ⊢
              unfold opStep
              rw [if_pos (by rfl)]
              go_simp
              exact hK.out _ _ (Below.refl _ _) (fun u hu => Option.some.inj hu) (hJ.pure 8 _ (by decide) (by decide) (by decide)) _ rfl
            case zn69 =>
              intro wq hbw D st hJ hD hdp K hK
              have hop := hJ.open_ (i := 9) (by decide) hD
              have hlow := HLOW.out wq hop.2
              simp only [Act.put, List.setIfInBounds_toArray, List.set_cons_zero, List.set_cons_succ] at hK ⊢
              unfold opStep
              rw [if_pos (by rfl)]
              have cl := (hlow.1.cell k).trans (rowF_get HKL.out.1)
              simp only [Nat.lt_succ_self, if_true] at cl
              go_simp
              exact hK.out _ _ (Below.refl _ _) (fun u hu => Option.some.inj hu) (hJ.pure 9 _ (by decide) (by decide) (by decide)) _ rfl
            case zn610 =>
              intro wq hbw D st hJ hD hdp K hK
              have hop := hJ.open_ (i := 10) (by decide) hD
              have hlow := HLOW.out wq hop.2
              simp only [Act.put, List.setIfInBounds_toArray, List.set_cons_zero, List.set_cons_succ] at hK ⊢
              unfold opStep
              rw [if_pos (by rfl)]
              go_simp
              exact hK.out _ _ (Below.refl _ _) (fun u hu => Option.some.inj hu) (hJ.pure 10 _ (by decide) (by decide) (by decide)) _ rfl
            case zn611 =>
              intro wq hbw D st hJ hD hdp K hK
              have hop := hJ.open_ (i := 11) (by decide) hD
              have hlow := HLOW.out wq hop.2
              simp only [Act.put, List.setIfInBounds_toArray, List.set_cons_zero, List.set_cons_succ] at hK ⊢
              unfold opStep
              rw [if_pos (by rfl)]
              have co := (row_cell hlow.2.1 (u := f (ly t k)) (by rw [List.getElem?_map, List.getElem?_range HLM.out]; rfl)).1
              rw [HRA.out] at co
              go_simp
              exact hK.out _ _ (Below.refl _ _) (fun u hu => Option.some.inj hu) (hJ.pure 11 _ (by decide) (by decide) (by decide)) _ rfl
            case zn612 =>
              intro wq hbw D st hJ hD hdp K hK
              have hop := hJ.open_ (i := 12) (by decide) hD
              have hlow := HLOW.out wq hop.2
              simp only [Act.put, List.setIfInBounds_toArray, List.set_cons_zero, List.set_cons_succ] at hK ⊢
              unfold opStep
              rw [if_pos (by rfl)]
              go_simp
              exact hK.out _ _ (Below.refl _ _) (fun u hu => Option.some.inj hu) (hJ.pure 12 _ (by decide) (by decide) (by decide)) _ rfl
            case zn613 =>
              intro wq hbw D st hJ hD hdp K hK
              have hop := hJ.open_ (i := 13) (by decide) hD
              have hlow := HLOW.out wq hop.2
              simp only [Act.put, List.setIfInBounds_toArray, List.set_cons_zero, List.set_cons_succ] at hK ⊢
              unfold opStep
              rw [if_pos (by rfl)]
              go_simp
              exact hK.out _ _ (Below.refl _ _) (fun u hu => Option.some.inj hu) (hJ.pure 13 _ (by decide) (by decide) (by decide)) _ rfl
            case zn614 =>
              intro wq hbw D st hJ hD hdp K hK
              have hop := hJ.open_ (i := 14) (by decide) hD
              have hlow := HLOW.out wq hop.2
              simp only [Act.put, List.setIfInBounds_toArray, List.set_cons_zero, List.set_cons_succ] at hK ⊢
              unfold opStep
              rw [if_pos (by rfl)]
              go_simp
              exact hK.out _ _ (Below.refl _ _) (fun u hu => Option.some.inj hu) (hJ.pure 14 _ (by decide) (by decide) (by decide)) _ rfl
            case zn615 =>
              intro wq hbw D st hJ hD hdp K hK
              have hop := hJ.open_ (i := 15) (by decide) hD
              have hlow := HLOW.out wq hop.2
              simp only [Act.put, List.setIfInBounds_toArray, List.set_cons_zero, List.set_cons_succ] at hK ⊢
              unfold opStep
              rw [if_pos (by rfl)]
              go_simp
              exact hK.out _ _ (Below.refl _ _) (fun u hu => Option.some.inj hu) (hJ.pure 15 _ (by decide) (by decide) (by decide)) _ rfl
            case zn616 =>
              intro wq hbw D st hJ hD hdp K hK
              have hop := hJ.open_ (i := 16) (by decide) hD
              have hlow := HLOW.out wq hop.2
              simp only [Act.put, List.setIfInBounds_toArray, List.set_cons_zero, List.set_cons_succ] at hK ⊢
              unfold opStep
              rw [if_pos (by rfl)]
              have cx := (HCELL.out wq hlow.2.2).1
              go_simp
              exact hK.out _ _ (Below.refl _ _) (fun u hu => Option.some.inj hu) (hJ.pure 16 _ (by decide) (by decide) (by decide)) _ rfl
            case zn617 =>
              intro wq hbw D st hJ hD hdp K hK
              have hop := hJ.open_ (i := 17) (by decide) hD
              have hlow := HLOW.out wq hop.2
              simp only [Act.put, List.setIfInBounds_toArray, List.set_cons_zero, List.set_cons_succ] at hK ⊢
              unfold opStep
              rw [if_pos (by rfl)]
              go_simp
              have k1 := hJ.made hD (by decide) (by decide)
              exact hK.out _ _ ((Below.refl _ _).alloc (Nat.le_trans HS2.out.bel.size hop.2.size) _) (fun u hu => by cases hu) k1 _ rfl
            case zn618 =>
              intro wq hbw D st hJ hD hdp K hK
              have hop := hJ.open_ (i := 18) (by decide) hD
              have hlow := HLOW.out wq hop.2
              simp only [Act.put, List.setIfInBounds_toArray, List.set_cons_zero, List.set_cons_succ] at hK ⊢
              unfold opStep
              rw [if_pos (by rfl)]
              have d17 := hdp 17 (of_decide_eq_true (by kernel_rfl))
              obtain ⟨g2, hg2, hB2⟩ := hJ.2.2.2.2.1 d17 hD
              rw [hg2] at hK ⊢
              have hrow2 := hJ.2.2.2.1 hD
              rw [HRA.out] at hrow2 hJ
              refine wp_append_blkI (.tmp 65) (.tmp 71) rfl (ga + 1) (.slice ra (lyN t k (ly t k)).length rc) (vi x.1) (lyN t k (ly t k)).length ((lyN t k (ly t k)).map vi) g2 rfl rfl rfl hrow2 hB2 (by have := HXL.out; omega) (by have := HS2.out.ord.2.2; have := hop.2.size; omega) ?_
              intro v5 w5 h5 hg5 hv5
              have k1 := hJ.more hD d17 (by decide) (by decide) h5 hg5 hv5
              exact hK.out _ _ ⟨hg5.os, hg5.tape, hg5.output, hg5.size, fun i hi => hg5.block i (by have := HS2.out.bel.size; have := hop.2.size; omega) (fun q => by have := (hrow2.lt i q.symm).1; have := HS2.out.ord.1; omega)⟩ (fun u hu => by cases hu) (by rw [HRA.out]; exact k1) _ rfl
            case zn619 =>
              intro wq hbw D st hJ hD hdp K hK
              have hop := hJ.open_ (i := 19) (by decide) hD
              have hlow := HLOW.out wq hop.2
              simp only [Act.put, List.setIfInBounds_toArray, List.set_cons_zero, List.set_cons_succ] at hK ⊢
              unfold opStep
              rw [if_pos (by rfl)]
              go_simp
              exact hK.out _ _ (Below.refl _ _) (fun u hu => Option.some.inj hu) (hJ.pure 19 _ (by decide) (by decide) (by decide)) _ rfl
            case zn620 =>
              intro wq hbw D st hJ hD hdp K hK
              simp only [Act.put, List.setIfInBounds_toArray, List.set_cons_zero, List.set_cons_succ] at hK ⊢
              unfold opStep
              rw [if_pos (by rfl)]
              have hall : ∀ j, j < 20 → D j = true := all_of (n := 20) (by kernel_rfl) hdp
              have hA := hall 18 (by decide)
              have hr5 := hJ.2.2.2.2.2.1 hA hD
              obtain ⟨a5, c5, e5⟩ := row_slc hr5.1
              rw [e5] at hK hr5 ⊢
              have hk5 := hJ.2.2.1 hD
              have hlow := HLOW.out wq hk5
              have hrc := row_cell hlow.2.1 (u := f (ly t k)) (by rw [List.getElem?_map, List.getElem?_range HLM.out]; rfl)
              have co := hrc.1
              have fo := hrc.2.1
              have lo := hrc.2.2
              have HF : Hid (LyS W (wq.setCell ⟨g, ly t k, none⟩ (.slice a5 ((lyN t k (ly t k)).length + 1) c5)) (ga + 1) ga t (fun j => if j < k + 1 then ly t j else 0) (.slice (some ⟨g, 0, none⟩) (nl t k) (oc)) (nl t k) (lyN t (k + 1))) := Lib.hid (by
                have hit := OutL.item HROW.out.1 HROW.out.2.1 HROW.out.2.2.1 HLM.out hk5 hr5.1 hr5.2
                have hkg : Kept (fun b => b = g) wq (wq.setCell ⟨g, ly t k, none⟩ (.slice a5 ((lyN t k (ly t k)).length + 1) c5)) := Kept.set _ rfl
                have hgB := HROW.out.2.2.2
                refine ⟨hkg.blk hlow.1 (by omega), hit.same fun l _ => ?_, hlow.2.2.setCell (p := ⟨g, ly t k, none⟩) (by show W.heap.size ≤ g; have := HS2.out.ord.1; omega) _, HS2.out.ord.1, HS2.out.ord.2.1, by have := HS2.out.ord.2.2; have := hk5.size; simp [World.setCell]; omega⟩
                by_cases e : l = ly t k
                · subst e; rw [if_pos rfl, lyN_yes, HNM.out]
                · rw [if_neg e, lyN_no e])
              go_simp
              exact hK.out _ _ ((Below.refl _ _).setCell (p := ⟨g, ly t k, none⟩) (by show W.heap.size ≤ g; have := HROW.out.2.2.2; have := HS2.out.ord.1; omega) _) (fun u hu => by cases hu) (hJ.fin hall hA (by decide) (by decide) HF.out) _ rfl
            case zn6fin =>
              intro wq hbw D st hall hJ
              simp only [FinAll, lfOf]
              simp only [Act.put, List.setIfInBounds_toArray, List.set_cons_zero, List.set_cons_succ]
              skip
              have HN4 := Lib.hid (hJ.2.2.2.2.2.2 (hall 20 (by decide)))
              clear hJ hall HROW HINL HLOW HS2
              generalize st 17 = x17
              generalize st 18 = x18
              go_wp2
              go_roundg (t.length - (k + 1))
              case measure => have := HM.out; omega
              case rel => exact ⟨k + 1, by have := HM.out; have := HKL.out.1; omega, by go_num, by rw [HNL.out]; exact HN4.out⟩
    · have e : k = t.length := by omega
      subst e
      have HS1 := Lib.hid (And.intro HST.out.out HST.out.bel)
      have HORD := Lib.hid HST.out.ord
      have hnk := nl_le t t.length
      clear HST
      go_wp2
      go_loopg [8, 77] (nl t t.length) (fun m _ idx wl => ∃ l : Nat, m + l = nl t t.length ∧ idx = .int .i64 l ∧ OutL (ga + 1) wl (.slice oa (nl t t.length) oc) (nl t t.length) (fun l' => if l' < l then sortI (lyN t t.length l') else lyN t t.length l') ∧ Below W.heap.size W wl)
      case atStart => exact ⟨0, by omega, rfl, HS1.out.1.same (fun l _ => by simp), HS1.out.2⟩
      case round =>
        clear HS1
        obtain ⟨l, hml, rfl, hout, hbel⟩ := hrel
        have HM2 := Lib.hid hml
        have KW := Lib.hid hbel
        have HOUT := Lib.hid hout
        have hl' : l ≤ nl t t.length := by omega
        clear hml hbel
        by_cases hll : l < nl t t.length
        · have hli : (l : Int) < nl t t.length := by omega
          have hl0 : (0 : Int) ≤ (l : Int) := by omega
          have HLL := Lib.hid (And.intro hll trivial)
          obtain ⟨f, h1, h2, h3⟩ := hout
          obtain ⟨g, rfl, hgB⟩ := row_addr h1 (by omega)
          have HR3 := Lib.hid (And.intro h1 (And.intro h2 h3))
          have co := (row_cell h1 (u := f l) (by rw [List.getElem?_map, List.getElem?_range hll]; rfl)).1
          have h2l := h2 l hll
          simp only [Nat.lt_irrefl, if_false] at h2l
          have hnl := lyN_len t t.length l
          have HSORT := Lib.hid (isort_own h2l (by omega))
          have HLT := Lib.hid h2l
          obtain ⟨ra, rc, hra⟩ := row_slc h2l
          have HRA := Lib.hid hra
          rw [hra] at co HSORT
          clear h1 h2 h3 hll h2l hra hgB hnl
          go_wp2_with fail
          refine HSORT.out.mono ?_
          rintro e w5 ⟨rfl, hr5, hg5⟩
          have HN : Hid (OutL (ga + 1) w5 (.slice (some ⟨g, 0, none⟩) (nl t t.length) oc) (nl t t.length) (fun l' => if l' < l + 1 then sortI (lyN t t.length l') else lyN t t.length l') ∧ Below W.heap.size W w5) := Lib.hid (by
            rw [← HRA.out] at hr5 hg5
            refine ⟨OutL.sorted HR3.out.1 HR3.out.2.1 HR3.out.2.2 HLL.out.1 (by simpa using hr5) hg5 (by simp) fun l' _ hne => ?_, KW.out.grown hg5 KW.out.size fun j hj => by have := (HLT.out.lt j hj).1; have := HORD.out.1; omega⟩
            by_cases h : l' < l
            · simp [h, show l' < l + 1 by omega]
            · simp [h, show ¬ l' < l + 1 by omega])
          clear hr5 hg5 HSORT co
          go_wp2
          go_roundg (nl t t.length - (l + 1))
          case measure => have := HM2.out; omega
          case rel => exact ⟨l + 1, by have := HM2.out; have := HLL.out.1; omega, by go_num, HN.out.1, HN.out.2⟩
        · have e : l = nl t t.length := by omega
          subst e
          have hlen : (layE t).length = nl t t.length := by unfold layE; simp
          have HLEN := Lib.hid hlen
          clear hout hlen
          go_wp2
          go_ret
          refine ⟨_, _, _, rfl, by rw [HLEN.out]; exact HOUT.out, fun l hl => ?_, KW.out⟩
          have hl2 : l < nl t t.length := by rw [← HLEN.out]; exact hl
          simp only [hl2, if_true]
          simp [layE]
end Go.Proofs.Ytfdicndmebhmdaa
