/-
  Chapter 02: wanted and exactly, at what a set operation returns.
-/
import Derived.Test.YtgolodpihmdmoaaNm
import Derived.Lib.QuietBelow
import Derived.Laws.AppendOwnNone
namespace Go.Proofs.Ytgolodpihmdmoaa
open Go.RowKit Go.Sort

def wantedB (xs ys : List Str) (s : Str) (k0 k1 k2 : Bool) : Bool :=
  (decide (s ∈ xs) && !decide (s ∈ ys) && k0) || (!decide (s ∈ xs) && decide (s ∈ ys) && k1) || (decide (s ∈ xs) && decide (s ∈ ys) && k2)

def WantedMade (w : World) (r : Bool) (e : Ending) (w' : World) : Prop := e = .returned (.bool r) ∧ Below w.heap.size w w'

set_option maxHeartbeats 1000000 in
theorem wanted_any (v u : Value) (xs ys : List Str) (s : Str) (k0 k1 k2 : Bool) (w : World) (hr : Reads vs w v xs) (hq : Reads vs w u ys) :
    Calls Try.prog 49 #[v, u, vs s, .agg #[.bool k0, .bool k1, .bool k2]] w (WantedMade w (wantedB xs ys s k0 k1 k2)) := by
  have HR := Lib.hid (And.intro hr hq)
  clear hr hq
  unfold wantedB
  generalize hx : decide (s ∈ xs) = x
  generalize hy : decide (s ∈ ys) = y
  have HX := Lib.hid (And.intro hx hy)
  clear hx hy
  unfold vs
  cases x <;> cases y <;> cases k0 <;> cases k1 <;> cases k2
  all_goals
    go_enter Try.func49, Try.ntmps49
    go_wp2_with fail
    refine (rhas_any v xs s _ (HR.out.1.keep ((Below.refl _ _).alloc (Nat.le_refl _) _))).mono ?_
    rintro e w1 ⟨rfl, rfl⟩
    rw [HX.out.1]
    go_wp2_with fail
    refine (rhas_any u ys s _ (HR.out.2.keep ((Below.refl _ _).alloc (Nat.le_refl _) _))).mono ?_
    rintro e w1 ⟨rfl, rfl⟩
    rw [HX.out.2]
    go_wp2
    go_ret
    exact ⟨rfl, (Below.refl _ _).alloc (Nat.le_refl _) _⟩

theorem snoc_all {α : Type} {p : α → Prop} {xs : List α} {k : Nat} (h : k < xs.length) (hp : ∀ s ∈ xs.take k, p s) (hk : p xs[k]) : ∀ s ∈ xs.take (k + 1), p s := by
  rw [List.take_succ_eq_append_getElem h]
  intro s hs
  rcases List.mem_append.1 hs with h | h
  · exact hp s h
  · simp at h; subst h; exact hk

theorem src_cells {w : World} {ad : Addr} {n c : Nat} {xs : List Str} (h : Reads vs w (.slice (some ad) n c) xs) : n = xs.length ∧ ∀ j u, (xs.map vs)[j]? = some u → w.cell? (ad.add j) = some u := by
  obtain ⟨ao, cap, hv, hl, hm, hn, hx⟩ := h
  injection hv with e1 e2 e3
  refine ⟨e2, fun j u hu => ?_⟩
  rw [List.getElem?_map] at hu
  by_cases hj : j < xs.length
  · rw [List.getElem?_eq_getElem hj] at hu
    simp at hu
    obtain ⟨b, off, rfl, hb, hc⟩ := hx (by intro e; subst e; simp at hj)
    injection e1 with e1
    subst e1
    rw [show Addr.add ⟨b, off, none⟩ j = (⟨b, off + j, none⟩ : Addr) by by_cases h0 : j = 0 <;> simp [Addr.add, h0], hc j hj, hu]
  · rw [List.getElem?_eq_none (by omega)] at hu; simp at hu

theorem one_vs (xs : List Str) : ∀ u ∈ xs.map vs, u.oneCell' = true := by
  intro u hu
  simp only [List.mem_map] at hu
  obtain ⟨s, _, rfl⟩ := hu
  rfl

theorem Reads.none {α : Type} {enc : α → Value} {w : World} {n c : Nat} {xs : List α} (h : Reads enc w (.slice Option.none n c) xs) : n = 0 ∧ c = 0 ∧ xs = [] := by
  obtain ⟨ao, cap, hv, hl, hm, hn, hx⟩ := h
  injection hv with e1 e2 e3
  have := hn e1.symm
  have h0 : xs.length = 0 := by omega
  exact ⟨by omega, by omega, List.length_eq_zero_iff.1 h0⟩

theorem append_reads {ops : Array Oper} {rest : List Oper} {o : Oper} {a : Act} {w : World} {Q : Exit → Act → World → Prop} (hgd : o.guard = none) (s x : Operand)
    (ho : o.op = .call { callee := .builtin .append, args := #[s, x], argTypes := #[24, 24] })
    (base : Nat) (v u : Value) (n : Nat) (xs ys : List Str) (hs : a.eval s = v) (hown : w.ownsRow base 9 1 v n (xs.map vs)) (hx : a.eval x = u) (hu : Reads vs w u ys) (hlen : n + ys.length ≤ 1000000) (hbase : base ≤ w.heap.size)
    (h : ∀ v' w', w'.ownsRow base 9 1 v' (n + ys.length) ((xs ++ ys).map vs) → w.grownBy w' v.ownBlock → wpList Try.prog ops Q rest (a.put o.dst v') w') : wpList Try.prog ops Q (o :: rest) a w := by
  obtain ⟨i0, hinf, hz0, hz1, hz2⟩ := info_parts Try.infoStr
  obtain ⟨au, c, rfl, hl⟩ := hu
  have hu : Reads vs w (.slice au ys.length c) ys := ⟨au, c, rfl, hl⟩
  cases au with
  | none =>
    obtain ⟨h0, hc, rfl⟩ := Reads.none hu
    subst hc
    refine wpList_append_own_none hgd s x 24 ho base 9 i0 1 Try.underlying24 hinf v n (xs.map vs) hs hown hx ?_
    exact h v w (by simpa using hown) (grown_refl _ _)
  | some au =>
    obtain ⟨_, hc⟩ := src_cells hu
    refine wpList_append_own w hgd s x 24 ho base 9 i0 (.string ⟨#[]⟩) 1 16 Try.underlying24 hinf hz0 hz1 hz2 rfl (by decide) v n (xs.map vs) hs hown au ys.length c (ys.map vs) hx (by simp) hc (one_vs _) (by unfold maxLen; omega) (by omega) hbase ?_
    intro v' w' h1 h2 _
    exact h v' w' (by rw [List.map_append]; exact h1) h2

set_option maxRecDepth 100000 in
set_option maxHeartbeats 8000000 in
theorem exactly_true (v u z : Value) (out xs ys : List Str) (k0 k1 k2 : Bool) (w : World) (hr : Reads vs w v out) (hq : Reads vs w u xs) (hz : Reads vs w z ys) (hn : xs.length + ys.length ≤ 1000000)
    (hs : out.Pairwise (· < ·)) (hw : ∀ s ∈ out, wantedB xs ys s k0 k1 k2 = true) (hc : ∀ s ∈ xs ++ ys, wantedB xs ys s k0 k1 k2 = true → s ∈ out) :
    Calls Try.prog 27 #[v, u, z, .agg #[.bool k0, .bool k1, .bool k2]] w (WantedMade w true) := by
  obtain ⟨i0, hinf, hz0, hz1, hz2⟩ := info_parts Try.infoStr
  have HI := Lib.hid (And.intro hinf (And.intro hz0 (And.intro hz1 hz2)))
  clear hinf hz0 hz1 hz2
  obtain ⟨wb0, hwb⟩ : ∃ wb0, wb0 = w.alloc (.cells #[.bool k0, .bool k1, .bool k2] 40) := ⟨_, rfl⟩
  have hB0 : Below w.heap.size w wb0 := by rw [hwb]; exact (Below.refl _ _).alloc (Nat.le_refl _) _
  have hkk : ∀ wx, Below wb0.heap.size wb0 wx → wx.heap[w.heap.size]? = some (.cells #[.bool k0, .bool k1, .bool k2] 40 (0, 0)) := fun wx hb => by
    rw [hb.block _ (by rw [hwb]; simp), hwb]; exact heap_alloc_new w _
  have HR := Lib.hid (And.intro (hr.keep hB0) (And.intro (hq.keep hB0) (And.intro (hz.keep hB0) (And.intro hB0 hkk))))
  have hr0 := hr.keep hB0
  have HS := Lib.hid (And.intro hs (And.intro hw hc))
  clear hr hq hz hs hw hc hB0 hkk
  obtain ⟨ao, cap, rfl, hl, hm, hno, hx⟩ := hr0
  unfold maxLen at hm
  have HXX := Lib.hid hx
  clear hx
  go_enter Try.func27, Try.ntmps27
  go_wp2
  rw [← hwb]
  go_loopg [9] out.length (fun m i wr => ∃ k : Nat, 0 < k ∧ (m + k = out.length + 1 ∨ (k = 1 ∧ out.length = 0)) ∧ i = .int .i64 k ∧ Drew wb0 wr)
  case atStart => exact ⟨1, by omega, by omega, rfl, Drew.refl _⟩
  case round =>
    obtain ⟨k, h0, hk, rfl, hd⟩ := hrel
    have HK := Lib.hid hk
    clear hwb hk
    by_cases hlt : k < out.length
    · obtain ⟨b, off, rfl, hb, hc⟩ := HXX.out (by intro e; subst e; simp at hlt)
      have h1 : wr.cell? ⟨b, off + (k - 1), none⟩ = some (.string (toB out[k-1])) := (hd.cell _).trans (hc (k-1) (by omega))
      have h2 : wr.cell? ⟨b, off + k, none⟩ = some (.string (toB out[k])) := (hd.cell _).trans (hc k hlt)
      have hB : Op.bytesLess (toB out[k-1]).toList (toB out[k]).toList = true := by
        rw [less_toB]; exact decide_eq_true (List.pairwise_iff_getElem.1 HS.out.1 (k-1) k (by omega) hlt (by omega))
      clear hc HXX hno
      have hk1 : (1 : Int) ≤ k := by omega
      have hk2 : ((k : Int) - 1) < out.length := by omega
      have hk3 : k ≤ 9223372036854775807 := by omega
      go_wp2
      have e1 : IntKind.i64.wrap ((k : Int) - 1) = (k : Int) - 1 := IntWalk.i64_in _ (by omega)
      have e2 : (0 : Int) ≤ (k : Int) - 1 := by omega
      have e3 : ((k : Int) - 1).toNat = k - 1 := by omega
      go_quiet (fail)
      clear e1 e2 e3
      go_wp2
      go_roundg (gk - 1)
      case measure => have := HK.out; omega
      case rel => exact ⟨k + 1, by omega, by have := HK.out; omega, by go_num, hd.step _⟩
    · go_wp2
      clear HK h0 hlt
      have hbw : Below wb0.heap.size wb0 wr := hd.below
      clear hd
      go_loopg [10] out.length (fun m i wr2 => ∃ k : Nat, m + k = out.length ∧ i = .int .i64 k ∧ Below wb0.heap.size wb0 wr2)
      case atStart => exact ⟨0, by omega, rfl, hbw⟩
      case round =>
        obtain ⟨k, hk, rfl, hb⟩ := hrel
        have HK := Lib.hid (And.intro hk hb)
        have hk2 : k ≤ out.length := by omega
        clear hk hb
        by_cases hlt : k < out.length
        · obtain ⟨bo, off, rfl, hbo, hc⟩ := HXX.out (by intro e; subst e; simp at hlt)
          have h1 : wr.cell? ⟨bo, off + k, none⟩ = some (.string (toB out[k])) := (HK.out.2.cell hbo).trans (hc k hlt)
          have hkk := HR.out.2.2.2.2 wr HK.out.2
          have h2a : wr.cell? ⟨w.heap.size, 0, none⟩ = some (.bool k0) := by simp [World.cell?, hkk]
          have h2b : wr.cell? ⟨w.heap.size, 1, none⟩ = some (.bool k1) := by simp [World.cell?, hkk]
          have h2c : wr.cell? ⟨w.heap.size, 2, none⟩ = some (.bool k2) := by simp [World.cell?, hkk]
          have g1 := fun d os => cell_regrown h1 d os
          have g2a := fun d os => cell_regrown h2a d os
          have g2b := fun d os => cell_regrown h2b d os
          have g2c := fun d os => cell_regrown h2c d os
          have hq2 : Below wb0.heap.size wb0 wr := HK.out.2
          have hcon : ∀ d os, Calls Try.prog 49 #[u, z, vs out[k], .agg #[.bool k0, .bool k1, .bool k2]] (Sort.grow (redrawn wr d) os) fun e w' => e = .returned (.bool true) ∧ Below (Sort.grow (redrawn wr d) os).heap.size (Sort.grow (redrawn wr d) os) w' := fun d os => by
            have h3 := hq2.trans ((below_regrown wr d os).mono hq2.size)
            have := wanted_any u z xs ys out[k] k0 k1 k2 (Sort.grow (redrawn wr d) os) (HR.out.2.1.keep h3) (HR.out.2.2.1.keep h3)
            rw [HS.out.2.1 out[k] (List.getElem_mem _)] at this
            exact this
          have HC := Lib.hid hcon
          clear hc HXX hno h1 hkk h2a h2b h2c hq2 hcon
          go_wp2
          refine wp_region_quiet_below (by kernel_rfl) (by kernel_rfl) ?_
          repeat (go_big_quiet_step ((go_at_call 49; exact Calls.regrown_of (HC.out _ _))))
          refine wpQuiet_nil ?_
          intro _ hw'
          obtain ⟨⟨dq, osq⟩, hw''⟩ := hw'
          subst hw''
          clear g1 g2a g2b g2c
          go_wp2
          go_roundg (out.length - (k + 1))
          case measure => have := HK.out.1; omega
          case rel => exact ⟨k + 1, by omega, by go_num, HK.out.2.trans ((below_regrown wr dq osq).mono HK.out.2.size)⟩
        · have HU := Lib.hid (HR.out.2.1.keep HK.out.2)
          have HZ := Lib.hid (HR.out.2.2.1.keep HK.out.2)
          go_wp2_with (at_builtin; refine append_reads rfl (.tmp 44) (.tmp 45) rfl wr.heap.size _ u 0 [] xs rfl (World.ownsRow_made wr #[] 0 (Nat.le_refl _) (Nat.zero_le _) rfl) rfl (HU.out.keep ((Below.refl _ _).alloc (Nat.le_refl _) _)) (by omega) (by simp) ?_)
          intro v3 w3 hown3 hgr3
          have H3 := Lib.hid (And.intro hown3 (((Below.refl wr.heap.size wr).alloc (Nat.le_refl _) (.cells #[] 9)).grown hgr3 (by simp) (fun k hk => by simp [Value.ownBlock] at hk; omega)))
          clear hown3 hgr3
          go_wp2_with (at_builtin; go_loud (refine append_reads rfl (.tmp 46) (.tmp 47) rfl wr.heap.size v3 z xs.length xs ys rfl H3.out.1 rfl (HZ.out.keep H3.out.2) (by omega) H3.out.2.size ?_))
          intro v4 w4 hown4 hgr4
          have H4 : Hid (Reads vs w4 v4 (xs ++ ys) ∧ Below wb0.heap.size wb0 w4) := by
            have hrow : ∀ k, v3.ownBlock = some k → wr.heap.size ≤ k := fun k hk => (H3.out.1.lt k hk).1
            refine ⟨Reads.of_owns (e := 9) (base := wr.heap.size) (n := xs.length + ys.length) (by simpa using hown4), ?_⟩
            exact HK.out.2.trans ((H3.out.2.grown hgr4 H3.out.2.size hrow).mono HK.out.2.size)
          clear hown4 hgr4
          have hlall : (xs ++ ys).length = xs.length + ys.length := List.length_append
          obtain ⟨a4, c4, rfl, hl4, hm4, hno4, hx4⟩ := H4.out.1
          unfold maxLen at hm4
          have HX4 := Lib.hid hx4
          clear hx4 hno4
          go_wp2
          go_loopg [12] (xs ++ ys).length (fun m i wr3 => ∃ k : Nat, m + k = (xs ++ ys).length ∧ i = .int .i64 k ∧ Below w4.heap.size w4 wr3)
          case atStart => exact ⟨0, by omega, rfl, Below.refl _ _⟩
          case round =>
            obtain ⟨k, hk, rfl, hb⟩ := hrel
            have HK3 := Lib.hid (And.intro hk hb)
            have hk2 : k ≤ (xs ++ ys).length := by omega
            clear hk hb
            by_cases hlt : k < (xs ++ ys).length
            · obtain ⟨bo, off, rfl, hbo, hc⟩ := HX4.out (by intro e; rw [e] at hlt; simp at hlt)
              have h1 : wr.cell? ⟨bo, off + k, none⟩ = some (.string (toB (xs ++ ys)[k])) := (HK3.out.2.cell hbo).trans (hc k hlt)
              have hq2 : Below wb0.heap.size wb0 wr := H4.out.2.trans (HK3.out.2.mono H4.out.2.size)
              have hkk := HR.out.2.2.2.2 wr hq2
              have h2a : wr.cell? ⟨w.heap.size, 0, none⟩ = some (.bool k0) := by simp [World.cell?, hkk]
              have h2b : wr.cell? ⟨w.heap.size, 1, none⟩ = some (.bool k1) := by simp [World.cell?, hkk]
              have h2c : wr.cell? ⟨w.heap.size, 2, none⟩ = some (.bool k2) := by simp [World.cell?, hkk]
              have g1 := fun d os => cell_regrown h1 d os
              have g2a := fun d os => cell_regrown h2a d os
              have g2b := fun d os => cell_regrown h2b d os
              have g2c := fun d os => cell_regrown h2c d os
              generalize hsk : (xs ++ ys)[k] = sk at *
              have hmem : sk ∈ xs ++ ys := hsk ▸ List.getElem_mem _
              have hcon : ∀ d os, Calls Try.prog 49 #[u, z, vs sk, .agg #[.bool k0, .bool k1, .bool k2]] (Sort.grow (redrawn wr d) os) fun e w' => e = .returned (.bool (wantedB xs ys sk k0 k1 k2)) ∧ Below (Sort.grow (redrawn wr d) os).heap.size (Sort.grow (redrawn wr d) os) w' := fun d os => by
                have h3 := hq2.trans ((below_regrown wr d os).mono hq2.size)
                exact wanted_any u z xs ys sk k0 k1 k2 (Sort.grow (redrawn wr d) os) (HR.out.2.1.keep h3) (HR.out.2.2.1.keep h3)
              have hcon2 : ∀ d os, Calls Try.prog 28 #[.slice ao out.length cap, vs sk] (Sort.grow (redrawn wr d) os) fun e w' => e = .returned (.bool (decide (sk ∈ out))) ∧ Below (Sort.grow (redrawn wr d) os).heap.size (Sort.grow (redrawn wr d) os) w' := fun d os => by
                have h3 := hq2.trans ((below_regrown wr d os).mono hq2.size)
                exact (rhas_any _ out sk (Sort.grow (redrawn wr d) os) (HR.out.1.keep h3)).mono (by rintro e w1 ⟨rfl, rfl⟩; exact ⟨rfl, Below.refl _ _⟩)
              by_cases hW : wantedB xs ys sk k0 k1 k2 = true
              · have hin : decide (sk ∈ out) = true := decide_eq_true (HS.out.2.2 sk hmem hW)
                simp only [hW] at hcon
                simp only [hin] at hcon2
                have HC := Lib.hid hcon
                have HC2 := Lib.hid hcon2
                have hlt2 : k < xs.length + ys.length := by omega
                clear hc HXX HX4 h1 hkk h2a h2b h2c hq2 hcon hcon2 hW hin hsk hmem
                go_wp2
                refine wp_region_quiet_below (by kernel_rfl) (by kernel_rfl) ?_
                repeat (go_big_quiet_step (first | (go_at_call 49; exact Calls.regrown_of (HC.out _ _)) | (go_at_call 28; exact Calls.regrown_of (HC2.out _ _))))
                refine wpQuiet_nil ?_
                intro _ hw'
                obtain ⟨⟨dq, osq⟩, hw''⟩ := hw'
                subst hw''
                clear g1 g2a g2b g2c
                go_wp2
                go_roundg ((xs ++ ys).length - (k + 1))
                case measure => have := HK3.out.1; omega
                case rel => exact ⟨k + 1, by omega, by go_num, HK3.out.2.trans ((below_regrown wr dq osq).mono HK3.out.2.size)⟩
              · have hW := Bool.eq_false_iff.2 hW
                simp only [hW] at hcon
                have HC := Lib.hid hcon
                have hlt2 : k < xs.length + ys.length := by omega
                clear hc HXX HX4 h1 hkk h2a h2b h2c hq2 hcon hcon2 hW hsk hmem
                go_wp2
                refine wp_region_quiet_below (by kernel_rfl) (by kernel_rfl) ?_
                repeat (go_big_quiet_step ((go_at_call 49; exact Calls.regrown_of (HC.out _ _))))
                refine wpQuiet_nil ?_
                intro _ hw'
                obtain ⟨⟨dq, osq⟩, hw''⟩ := hw'
                subst hw''
                clear g1 g2a g2b g2c
                go_wp2
                go_roundg ((xs ++ ys).length - (k + 1))
                case measure => have := HK3.out.1; omega
                case rel => exact ⟨k + 1, by omega, by go_num, HK3.out.2.trans ((below_regrown wr dq osq).mono HK3.out.2.size)⟩
            · have hnlt : ¬ k < xs.length + ys.length := by omega
              go_wp2
              go_ret
              exact ⟨rfl, (HR.out.2.2.2.1.trans ((H4.out.2.trans (HK3.out.2.mono H4.out.2.size)).mono HR.out.2.2.2.1.size))⟩
end Go.Proofs.Ytgolodpihmdmoaa
