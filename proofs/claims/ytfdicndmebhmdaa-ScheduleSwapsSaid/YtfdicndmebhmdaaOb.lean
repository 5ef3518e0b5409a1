/-
  Chapter 29: the reference's Exchanged.
-/
import Derived.Test.YtfdicndmebhmdaaNx
import Derived.Test.YtfdicndmebhmdaaPh
namespace Go.Proofs.Ytfdicndmebhmdaa
open Go.RowKit
/-- A trace in a list of traces: made by the call, or older than the list. -/
def ElX (B : Nat) (W1 w : World) (u : Value) (L : List Ev) : Prop := EvsW W1 w u L ∨ (ReadsW W1 w u L ∧ (L ≠ [] → ∀ b, u.ownBlock = some b → b < B))
def RowsX (B : Nat) (W1 w : World) (v : Value) (LL : List (List Ev)) : Prop := ∃ us : List Value, w.ownsRow B 22 1 v LL.length us ∧ ∀ k (h : k < LL.length), ∃ u, us[k]? = some u ∧ ElX B W1 w u LL[k]
section
variable {B : Nat} {W1 w w' : World} {u v : Value} {L : List Ev} {LL : List (List Ev)}
theorem ElX.on (h : ElX B W1 w u L) (hb : Below w.heap.size w w') : ElX B W1 w' u L := h.imp (·.on hb) fun ⟨a, b⟩ => ⟨a.on hb, b⟩
theorem ElX.readsW (h : ElX B W1 w u L) : ReadsW W1 w u L := h.elim (·.readsW) (·.1)
theorem ElX.slc (h : ElX B W1 w u L) : ∃ a c, u = .slice a L.length c := by
  obtain ⟨ao, cap, e, _⟩ := h.readsW
  exact ⟨ao, cap, e⟩
theorem ElX.grown (h : ElX B W1 w u L) {n : Nat} {xs : List Value} (hr : w.ownsRow B 22 1 v n xs) (hg : w.grownBy w' v.ownBlock) : ElX B W1 w' u L := by
  rcases h with h | ⟨h1, h2⟩
  · exact .inl (h.grown hr (by decide) hg)
  · refine .inr ⟨?_, h2⟩
    by_cases he : L = []
    · subst he
      obtain ⟨ao, cap, rfl, g1, g2, g3, -⟩ := h1
      exact ⟨ao, cap, rfl, g1, g2, g3, fun q => absurd rfl q⟩
    · exact h1.grown hg fun b hb e => by have := h2 he b hb; have := (hr.lt b e).1; omega
theorem RowsX.on (h : RowsX B W1 w v LL) (hb : Below w.heap.size w w') : RowsX B W1 w' v LL := by
  obtain ⟨us, h1, h2⟩ := h
  exact ⟨us, below_row h1 hb, fun k hk => by obtain ⟨u, a, b⟩ := h2 k hk; exact ⟨u, a, b.on hb⟩⟩
theorem RowsX.slc (h : RowsX B W1 w v LL) : ∃ a c, v = .slice a LL.length c := by
  obtain ⟨us, h1, -⟩ := h
  exact row_slc h1
theorem RowsX.cell {a : Option Addr} {n c : Nat} (h : RowsX B W1 w (.slice a n c) LL) {k : Nat} (hk : k < LL.length) : ∃ ga u c', a = some ⟨ga, 0, none⟩ ∧ (∀ wq, Below w.heap.size w wq → wq.cell? ⟨ga, k, none⟩ = some (.slice u LL[k].length c')) ∧ ElX B W1 w (.slice u LL[k].length c') LL[k] := by
  obtain ⟨us, h1, h2⟩ := h
  obtain ⟨u, q1, q2⟩ := h2 k hk
  obtain ⟨a', c', rfl⟩ := q2.slc
  obtain ⟨a2, c2, e⟩ := row_slc h1
  injection e with e1 e2 e3
  subst e2 e3
  obtain ⟨g, rfl, -, h5⟩ := row_at h1 (by omega)
  exact ⟨g, a', c', rfl, fun wq hq => h5 wq hq k _ q1, q2⟩
theorem RowsX.one (w : World) (hB : B ≤ w.heap.size) (hu : ElX B W1 w u L) : RowsX B W1 (w.alloc (.cells #[u] 22)) (.slice (some ⟨w.heap.size, 0, none⟩) 1 1) [L] :=
  ⟨[u], row_new w u hB, fun k hk => by
    have e : k = 0 := by simp at hk; exact hk
    subst e
    exact ⟨u, rfl, hu.on ((Below.refl _ _).alloc (Nat.le_refl _) _)⟩⟩
end
set_option maxRecDepth 100000 in
/-- append of one trace. -/
theorem append_rowsx {B : Nat} {ops : Array Oper} {rest : List Oper} {o : Oper} {a : Act} {w W1 : World} {Q : Exit → Act → World → Prop} (hgd : o.guard = none) (s x : Operand)
    (ho : o.op = .call { callee := .builtin .append, args := #[s, x], argTypes := #[38, 38] })
    (v u : Value) (LL : List (List Ev)) (y : List Ev) (g : Nat) (hs : a.eval s = v) (hown : RowsX B W1 w v LL) (hx : a.eval x = .slice (some ⟨g, 0, none⟩) 1 1) (hB : Blk w g 22 #[u]) (hu : ElX B W1 w u y) (hlen : LL.length ≤ 100000) (hbase : B ≤ w.heap.size)
    (h : ∀ v' w', RowsX B W1 w' v' (LL ++ [y]) → Kept (fun k => B ≤ k) w w' → wpList Try.prog ops Q rest (a.put o.dst v') w') : wpList Try.prog ops Q (o :: rest) a w := by
  obtain ⟨i0, hinf, hz0, hz1, hz2⟩ := info_parts Try.infoEvs
  obtain ⟨us, hrow, hc⟩ := hown
  have hone : u.oneCell' = true := by obtain ⟨g2, c2, rfl⟩ := hu.slc; rfl
  refine wpList_append_own w hgd s x 38 ho B 22 i0 _ 1 24 Try.underlying38 hinf hz0 hz1 hz2 rfl (by decide) v LL.length us hs hrow ⟨g, 0, none⟩ 1 1 [u] hx rfl ?_ (fun z hz => by rw [List.mem_singleton.1 hz]; exact hone) (by unfold maxLen; omega) (by omega) hbase ?_
  · intro j z hz
    have h1 := hB.cell j
    have h2 : (#[u] : Array Value)[j]? = some z := by simpa using hz
    rw [← h2, ← h1]
    by_cases h0 : j = 0 <;> simp [Addr.add, h0]
  · intro v' w' h1 h2 _
    refine h v' w' ⟨us ++ [u], by rw [List.length_append]; exact h1, fun k hkl => ?_⟩ (Kept.ofG h2 fun k hk => (hrow.lt k hk.symm).1)
    have hcl : us.length = LL.length := by simpa using hrow.1
    by_cases hlt : k < LL.length
    · obtain ⟨z, q1, q2⟩ := hc k hlt
      exact ⟨z, by rw [List.getElem?_append_left (by omega)]; exact q1, by rw [List.getElem_append_left hlt]; exact q2.grown hrow h2⟩
    · have hk' : k = LL.length := by simp at hkl; omega
      subst hk'
      exact ⟨u, by rw [List.getElem?_append_right (by omega), hcl, Nat.sub_self]; rfl, by rw [List.getElem_append_right (Nat.le_refl _)]; simpa using hu.grown hrow h2⟩
theorem swp_put {W1 : World} {g c k : Nat} {y : List Ev} {w1 w2 w3 : World} {s1 s2 : Option Addr} {d1 d2 : Nat} (h : NxE W1 g c y w1) (hk : k + 1 < y.length) (h1 : Reads vi W1 (.slice s1 y[k].2.length d1) y[k].2) (h2 : Reads vi W1 (.slice s2 y[k + 1].2.length d2) y[k + 1].2)
    (e2 : w2 = w1.setCells g (k * 2) (#[Value.int .i64 y[k + 1].1, .slice s2 y[k + 1].2.length d2] : Array Value).toList) (e3 : w3 = w2.setCells g ((k + 1) * 2) (#[Value.int .i64 y[k].1, .slice s1 y[k].2.length d1] : Array Value).toList) : NxE W1 g c (swpE y k) w3 := by
  subst e2 e3
  have h3 := h.put (q := k) (by omega) h2
  have h4 := h3.put (q := k + 1) (by rw [List.length_set]; omega) h1
  unfold swpE
  rw [nthE_eq (show k < y.length by omega), nthE_eq hk]
  exact h4
theorem one2 (a : Int) (s : Option Addr) (n c : Nat) : (#[Value.int .i64 a, .slice s n c] : Array Value).all (·.oneCell') = true := all_oneCell_toArray (cs := [Value.int .i64 a, .slice s n c]) (by intro v hv; simp at hv; rcases hv with rfl | rfl <;> rfl)
theorem anyT_succ {f : List Ev → Bool} {T : List (List Ev)} {p : Nat} (h : p < T.length) : (T.take (p + 1)).any f = ((T.take p).any f || f T[p]) := by
  rw [List.take_succ_eq_append_getElem h, List.any_append]; simp
theorem anyT_mem (T : List (List Ev)) (x : List Ev) : (T.any fun q => decide (q = x)) = decide (x ∈ T) := by
  rw [Bool.eq_iff_iff, List.any_eq_true, decide_eq_true_eq]
  constructor
  · rintro ⟨q, h1, h2⟩
    rw [decide_eq_true_eq] at h2
    exact h2 ▸ h1
  · intro h; exact ⟨x, h, decide_eq_true rfl⟩
set_option maxRecDepth 100000 in
set_option maxHeartbeats 16000000 in
theorem rexch_any (va vb : Value) (a b : List Ev) (W : World) (ha : ReadsE W va a) (hb : ReadsE W vb b) (hal : a.length ≤ 6) : Calls Try.prog 19 #[va, vb] W (BoolMade W (decide (normE a = normE b))) := by
  have HA := Lib.hid ha.toW
  have HR := Lib.hid hb
  have HT0 : Hid (∀ c, va.ownBlock = some c → a ≠ [] → c < W.heap.size) := Lib.hid (by
    intro c hc hne
    obtain ⟨ao, cap, rfl, -, -, -, hx⟩ := ha
    obtain ⟨b1, o1, rfl, hlt, -⟩ := hx hne
    have h1 : b1 = c := by simpa [Value.ownBlock] using hc
    omega)
  have HM720 := Lib.hid (And.intro (lins_720 hal) hal)
  have HHIT : Hid (∀ (S : List (List Ev)) (i : Nat), ExQ a b S i → ∀ hi : i < S.length, S[i] = b → decide (normE a = normE b) = true) := Lib.hid fun S i h hi e => h.hit hi e
  have HMISS : Hid (∀ S : List (List Ev), ExQ a b S S.length → decide (normE a = normE b) = false) := Lib.hid fun S h => h.miss
  generalize hres : decide (normE a = normE b) = res at *
  clear hres
  obtain ⟨ao, acap, rfl, hl, hm, -, -⟩ := ha
  unfold maxLen at hm
  have HEL : Hid (ElX W.heap.size W W (.slice ao a.length acap) a) := Lib.hid (.inr ⟨HA.out, fun hne c hc => HT0.out c hc hne⟩)
  have HST := Lib.hid (ExQ.start a b)
  have HLEN := Lib.hid fun S i (h : ExQ a b S i) => h.len
  have HYL : Hid (∀ S i, ExQ a b S i → ∀ y, y ∈ S → y.length = a.length) := Lib.hid fun S i h y hy => ((h.eq y hy).len).symm
  go_enter Try.func19, Try.ntmps19
  have HR1 := Lib.hid (RowsX.one W (Nat.le_refl _) HEL.out)
  have KB1 : Hid (∀ o, Below W.heap.size W (W.alloc o)) := Lib.hid fun o => (Below.refl _ _).alloc (Nat.le_refl _) _
  clear HEL HT0
  go_wp2
  go_loopg [5, 6, 7, 8, 9, 10] 720 (fun m o ix _ _ _ _ wr => ∃ (S : List (List Ev)) (i : Nat), m + i = 720 ∧ i ≤ S.length ∧ ix = .int .i64 i ∧ RowsX W.heap.size W wr o S ∧ ExQ a b S i ∧ Below W.heap.size W wr)
  case atStart => exact ⟨[a], 0, by omega, Nat.zero_le _, rfl, HR1.out, HST.out, KB1.out _⟩
  case round =>
    clear HR1 KB1 HST
    rename World => w1
    obtain ⟨S, i, hmi, his, rfl, hrow, hq, hb1⟩ := hrel
    have HM := Lib.hid (And.intro hmi his)
    have HROW := Lib.hid hrow
    have HQ := Lib.hid hq
    have K1 := Lib.hid hb1
    have hi0 : (0 : Int) ≤ (i : Int) := by omega
    have hsl : S.length ≤ 720 := by have h1 := HLEN.out S i hq; have h2 := HM720.out.1; omega
    obtain ⟨oa, oc, rfl⟩ := hrow.slc
    clear hmi hrow hq hb1
    by_cases hil : i < S.length
    · have hii : (i : Int) < S.length := by omega
      have HIL := Lib.hid (And.intro hil trivial)
      obtain ⟨gs, u, uc, e1, hcell, hel⟩ := HROW.out.cell hil
      subst e1
      have HYLN : Hid ((S[i]).length = a.length) := Lib.hid (HYL.out S i HQ.out _ (List.getElem_mem hil))
      have HGET : Hid (S[i]? = some S[i]) := Lib.hid (List.getElem?_eq_getElem hil)
      have HHI := Lib.hid (fun e => HHIT.out S i HQ.out hil e)
      have HSTEP := Lib.hid (fun (hne : S[i] ≠ b) => hne)
      have c0 := hcell w1 (Below.refl _ _)
      have HY := Lib.hid (hel.readsW)
      generalize hyy : S[i] = y at *
      clear hyy hcell hel
      go_wp2_with fail
      refine (rstr_any _ _ y b w1 (HY.out.toE K1.out) (HR.out.on K1.out)).mono ?_
      rintro e w2 ⟨rfl, hb2⟩
      have K12 := Lib.hid hb2
      have K2 := Lib.hid (K1.out.trans (hb2.mono K1.out.size))
      have HROW2 := Lib.hid (HROW.out.on hb2)
      clear hb2 HROW K1 HY c0
      by_cases hyb : y = b
      · have HRES := Lib.hid (HHI.out hyb)
        have hd : decide (y = b) = true := decide_eq_true hyb
        rw [hd]
        clear hyb hd
        go_wp2
        go_ret
        exact ⟨by rw [HRES.out]; rfl, K2.out⟩
      · have hd : decide (y = b) = false := decide_eq_false hyb
        have HYB := Lib.hid (And.intro hyb trivial)
        rw [hd]
        clear hyb hd HHI HSTEP
        obtain ⟨G1, hG1⟩ : ∃ G, G = gk := ⟨_, rfl⟩
        subst hG1
        go_wp2
        go_loopg [5, 7, 8, 9, 10] y.length (fun m o kx _ _ _ wr => ∃ (S : List (List Ev)) (k : Nat), m + k = y.length ∧ k ≤ y.length ∧ i < S.length ∧ S[i]? = some y ∧ kx = .int .i64 k ∧ RowsX W.heap.size W wr o S ∧ ExQ a b S i ∧ NbQ S y k ∧ Below W.heap.size W wr)
        case atStart => exact ⟨S, 0, by omega, by omega, HIL.out.1, HGET.out, rfl, HROW2.out, HQ.out, NbQ.start S y, K2.out⟩
        case round =>
          clear HROW2 HQ HGET K12 K2 hsl hii HIL
          rename World => w3
          obtain ⟨T, k, hmk, hky, hiT, hgT, rfl, hrow, hq, hnb, hb3⟩ := hrel
          have HM2 := Lib.hid (And.intro hmk hky)
          have HROW := Lib.hid hrow
          have HQ := Lib.hid hq
          have HNB := Lib.hid hnb
          have K3 := Lib.hid hb3
          have HIT := Lib.hid (And.intro hiT hgT)
          have hk0 : (0 : Int) ≤ (k : Int) := by omega
          have hal2 := HM720.out.2
          have hk6 : k ≤ 6 := by have := HYLN.out; omega
          have hsl : T.length ≤ 720 := by have h1 := HLEN.out T i hq; have h2 := HM720.out.1; omega
          have hii : (i : Int) < T.length := by omega
          obtain ⟨oa, oc, rfl⟩ := hrow.slc
          obtain ⟨gs, u, uc, e1, hcell, hel⟩ := HROW.out.cell hiT
          subst e1
          have hTy : T[i] = y := by rw [List.getElem?_eq_getElem hiT] at hgT; injection hgT
          rw [hTy] at hcell hel
          have HC := Lib.hid hcell
          have HEL := Lib.hid hel
          have c0 := hcell w3 (Below.refl _ _)
          clear hmk hrow hq hnb hb3 hiT hgT hTy hcell hel
          obtain ⟨k1, hk1⟩ : ∃ k1, k1 = k + 1 := ⟨_, rfl⟩
          have ek : (k : Int) + 1 = (k1 : Int) := by omega
          have ew : IntKind.i64.wrap (k1 : Int) = (k1 : Int) := IntWalk.i64_in _ (by omega)
          have hk10 : (0 : Int) ≤ (k1 : Int) := by omega
          have HK1 := Lib.hid hk1
          by_cases hkl : k1 < y.length
          · have hkli : (k1 : Int) < y.length := by omega
            have hky2 : (k : Int) < y.length := by omega
            have hlt : k < y.length := by omega
            have HKL := Lib.hid (And.intro hkl trivial)
            have HLT := Lib.hid (And.intro hlt trivial)
            have HDEP := Lib.hid (fun (h : depI y k k1 = true) => HNB.out.dep (by rw [← HK1.out]; exact h))
            have HSW := Lib.hid (fun (h : depI y k k1 = false) => (HQ.out.eq y (by obtain ⟨q1, q2⟩ := List.getElem?_eq_some_iff.1 HIT.out.2; rw [← q2]; exact List.getElem_mem _)).trans (swpE_prj (by rw [← HK1.out]; exact HKL.out.1) (by rw [← HK1.out]; exact h)))
            obtain ⟨b1, o1, cap1, s1, c1, hv, hcl1, r1⟩ := HEL.out.readsW.at2 hlt
            injection hv with e1 e2 e3
            subst e1
            obtain ⟨b2, o2, cap2, s2, c2, hv, hcl2, r2⟩ := HEL.out.readsW.at2 hkl
            injection hv with e1 e2' e3'
            injection e1 with e1
            injection e1 with e1 e4
            subst e1 e4
            have hdi : depI y k k1 = depE y[k] y[k1] := by unfold depI; rw [nthE_eq hlt, nthE_eq hkl]
            have HX := Lib.hid (And.intro hcl1 r1)
            have HY := Lib.hid (And.intro hcl2 r2)
            have HSWP : Hid (∀ (g c : Nat) (w1 w2 w3 : World), NxE W g c y w1 → w2 = w1.setCells g (k * 2) (#[Value.int .i64 y[k1].1, .slice s2 y[k1].2.length c2] : Array Value).toList → w3 = w2.setCells g (k1 * 2) (#[Value.int .i64 y[k].1, .slice s1 y[k].2.length c1] : Array Value).toList → NxE W g c (swpE y k) w3) := Lib.hid (by
              intro g c w1 w2 w3 h0 h1 h2
              subst hk1
              exact swp_put h0 hkl r1 r2 h1 h2)
            clear e2 e3 e2' e3' hcl1 hcl2 r1 r2 hk1
            generalize y[k] = x at *
            generalize y[k1] = z at *
            clear hlt hkl
            go_wp2_with fail
            have HDI := Lib.hid hdi
            clear hdi c0
            generalize hd : depE x z = d at *
            have HD := Lib.hid hd
            clear hd
            refine region_left [.is (.slice (some ⟨gs, 0, none⟩) T.length oc), .is (.int .i64 (i : Int)), .is (.pointer (some ⟨gs, i, none⟩)), .is (.slice (some ⟨b1, o1, none⟩) y.length uc), .is (.int .i64 (k : Int)), .is (.pointer (some ⟨b1, o1 + k * 2, none⟩)), .is (.agg #[.int .i64 x.1, .slice s1 x.2.length c1]), .is (.slice (some ⟨gs, 0, none⟩) T.length oc), .is (.int .i64 (i : Int)), .is (.pointer (some ⟨gs, i, none⟩)), .is (.slice (some ⟨b1, o1, none⟩) y.length uc), .is (.int .i64 (k : Int)), .is (.int .i64 (k1 : Int)), .is (.pointer (some ⟨b1, o1 + k1 * 2, none⟩)), .is (.agg #[.int .i64 z.1, .slice s2 z.2.length c2]), .is (.bool d)] (by kernel_rfl) rfl (by kernel_rfl) (by kernel_rfl) (.cons ?a0 (.cons ?a1 (.cons ?a2 (.cons ?a3 (.cons ?a4 (.cons ?a5 (.cons ?a6 (.cons ?a7 (.cons ?a8 (.cons ?a9 (.cons ?a10 (.cons ?a11 (.cons ?a12 (.cons ?a13 (.cons ?a14 (.cons ?a15 .nil)))))))))))))))) ?afin
            case a0 =>
              intro wq hbw st  K hK
              simp only [Act.put, List.setIfInBounds_toArray, List.set_cons_zero, List.set_cons_succ] at hK ⊢
              unfold opStep
              rw [if_pos (by rfl)]
              go_simp
              exact hK.out _ _ (Below.refl _ _) rfl _ rfl
            case a1 =>
              intro wq hbw st  K hK
              simp only [Act.put, List.setIfInBounds_toArray, List.set_cons_zero, List.set_cons_succ] at hK ⊢
              unfold opStep
              rw [if_pos (by rfl)]
              go_simp
              exact hK.out _ _ (Below.refl _ _) rfl _ rfl
            case a2 =>
              intro wq hbw st  K hK
              simp only [Act.put, List.setIfInBounds_toArray, List.set_cons_zero, List.set_cons_succ] at hK ⊢
              unfold opStep
              rw [if_pos (by rfl)]
              go_simp
              exact hK.out _ _ (Below.refl _ _) rfl _ rfl
            case a3 =>
              intro wq hbw st  K hK
              simp only [Act.put, List.setIfInBounds_toArray, List.set_cons_zero, List.set_cons_succ] at hK ⊢
              unfold opStep
              rw [if_pos (by rfl)]
              have d0 := HC.out wq hbw
              go_simp
              exact hK.out _ _ (Below.refl _ _) rfl _ rfl
            case a4 =>
              intro wq hbw st  K hK
              simp only [Act.put, List.setIfInBounds_toArray, List.set_cons_zero, List.set_cons_succ] at hK ⊢
              unfold opStep
              rw [if_pos (by rfl)]
              go_simp
              exact hK.out _ _ (Below.refl _ _) rfl _ rfl
            case a5 =>
              intro wq hbw st  K hK
              simp only [Act.put, List.setIfInBounds_toArray, List.set_cons_zero, List.set_cons_succ] at hK ⊢
              unfold opStep
              rw [if_pos (by rfl)]
              go_simp
              exact hK.out _ _ (Below.refl _ _) rfl _ rfl
            case a6 =>
              intro wq hbw st  K hK
              simp only [Act.put, List.setIfInBounds_toArray, List.set_cons_zero, List.set_cons_succ] at hK ⊢
              unfold opStep
              rw [if_pos (by rfl)]
              have dd := Lib.hid (HX.out.1 wq hbw)
              have d0 := dd.out.1
              have d1 := dd.out.2
              go_simp
              exact hK.out _ _ (Below.refl _ _) rfl _ rfl
            case a7 =>
              intro wq hbw st  K hK
              simp only [Act.put, List.setIfInBounds_toArray, List.set_cons_zero, List.set_cons_succ] at hK ⊢
              unfold opStep
              rw [if_pos (by rfl)]
              go_simp
              exact hK.out _ _ (Below.refl _ _) rfl _ rfl
            case a8 =>
              intro wq hbw st  K hK
              simp only [Act.put, List.setIfInBounds_toArray, List.set_cons_zero, List.set_cons_succ] at hK ⊢
              unfold opStep
              rw [if_pos (by rfl)]
              go_simp
              exact hK.out _ _ (Below.refl _ _) rfl _ rfl
            case a9 =>
              intro wq hbw st  K hK
              simp only [Act.put, List.setIfInBounds_toArray, List.set_cons_zero, List.set_cons_succ] at hK ⊢
              unfold opStep
              rw [if_pos (by rfl)]
              go_simp
              exact hK.out _ _ (Below.refl _ _) rfl _ rfl
            case a10 =>
              intro wq hbw st  K hK
              simp only [Act.put, List.setIfInBounds_toArray, List.set_cons_zero, List.set_cons_succ] at hK ⊢
              unfold opStep
              rw [if_pos (by rfl)]
              have d0 := HC.out wq hbw
              go_simp
              exact hK.out _ _ (Below.refl _ _) rfl _ rfl
            case a11 =>
              intro wq hbw st  K hK
              simp only [Act.put, List.setIfInBounds_toArray, List.set_cons_zero, List.set_cons_succ] at hK ⊢
              unfold opStep
              rw [if_pos (by rfl)]
              go_simp
              exact hK.out _ _ (Below.refl _ _) rfl _ rfl
            case a12 =>
              intro wq hbw st  K hK
              simp only [Act.put, List.setIfInBounds_toArray, List.set_cons_zero, List.set_cons_succ] at hK ⊢
              unfold opStep
              rw [if_pos (by rfl)]
              go_simp
              exact hK.out _ _ (Below.refl _ _) rfl _ rfl
            case a13 =>
              intro wq hbw st  K hK
              simp only [Act.put, List.setIfInBounds_toArray, List.set_cons_zero, List.set_cons_succ] at hK ⊢
              unfold opStep
              rw [if_pos (by rfl)]
              go_simp
              exact hK.out _ _ (Below.refl _ _) rfl _ rfl
            case a14 =>
              intro wq hbw st  K hK
              simp only [Act.put, List.setIfInBounds_toArray, List.set_cons_zero, List.set_cons_succ] at hK ⊢
              unfold opStep
              rw [if_pos (by rfl)]
              have dd := Lib.hid (HY.out.1 wq hbw)
              have d0 := dd.out.1
              have d1 := dd.out.2
              go_simp
              exact hK.out _ _ (Below.refl _ _) rfl _ rfl
            case a15 =>
              intro wq hbw st  K hK
              simp only [Act.put, List.setIfInBounds_toArray, List.set_cons_zero, List.set_cons_succ] at hK ⊢
              unfold opStep
              rw [if_pos (by rfl)]
              go_simp
              have KQ := K3.out.trans (hbw.mono K3.out.size)
              have hpc := rdep_any _ _ x z wq ⟨_, rfl, HX.out.2.keep KQ⟩ ⟨_, rfl, HY.out.2.keep KQ⟩
              rw [HD.out] at hpc
              refine hpc.mono ?_
              rintro e wz ⟨rfl, hbz⟩
              go_simp
              exact hK.out _ _ hbz rfl _ rfl
            case afin =>
              intro wq hbw
              try simp only [FinAll]
              simp only [Act.put, List.setIfInBounds_toArray, List.set_cons_zero, List.set_cons_succ]
              have HY0 := Lib.hid HY.out.2
              have KQ := Lib.hid (K3.out.trans (hbw.mono K3.out.size))
              have HROWq := Lib.hid (HROW.out.on hbw)
              have HCq := Lib.hid (fun wz (hz : Below wq.heap.size wq wz) => HC.out wz (hbw.trans (hz.mono hbw.size)))
              have HXq := Lib.hid (fun wz (hz : Below wq.heap.size wq wz) => HX.out.1 wz (hbw.trans (hz.mono hbw.size)))
              have HYq := Lib.hid (fun wz (hz : Below wq.heap.size wq wz) => HY.out.1 wz (hbw.trans (hz.mono hbw.size)))
              have HELq := Lib.hid (HEL.out.on hbw)
              clear hbw K3 HROW HC HX HY HEL
              cases d with
              | true =>
                have HN2 := Lib.hid (HDEP.out HDI.out)
                go_wp2
                go_roundg (y.length - k1)
                case measure => have := HM2.out; have := HK1.out; have := HKL.out.1; omega
                case rel => exact ⟨T, k1, by have := HKL.out.1; omega, by have := HKL.out.1; omega, HIT.out.1, HIT.out.2, by go_num, HROWq.out, HQ.out, by rw [HK1.out]; exact HN2.out, KQ.out⟩
              | false =>
                have HEQ := Lib.hid (HSW.out HDI.out)
                have HB0 : Hid (Below wq.heap.size wq (wq.alloc (.cells #[] 29))) := Lib.hid ((Below.refl _ _).alloc (Nat.le_refl _) _)
                have c0 := HCq.out _ HB0.out
                have hyl6 : y.length ≤ 6 := by have := HM720.out.2; have := HYLN.out; omega
                clear HDEP HSW HD HDI
                go_wp2_with (at_builtin; refine append_evw (B := wq.heap.size) (w0 := wq) (W1 := W) rfl _ _ rfl _ _ [] y rfl (OwnE.made (EvW W) (Nat.le_refl _) (Nat.le_refl _) (Below.refl _ _)) rfl (HELq.out.on HB0.out).readsW (by simp; omega) ?_)
                intro v4 w4 h4 hk4
                clear c0 hk4 HB0
                try rw [List.nil_append] at h4
                obtain ⟨o4, c4, rfl⟩ := h4.slc
                obtain ⟨gn, e4, -, hgB, hnx⟩ := NxE.of_own h4 (by have := HLT.out.1; omega)
                subst e4
                have KB4 := Lib.hid h4.1.2.2
                have HNX4 := Lib.hid hnx
                have HGB := Lib.hid hgB
                clear h4 hnx hgB
                have hth5 := HNX4.out.there HLT.out.1 #[.int .i64 z.1, .slice s2 z.2.length c2] rfl
                obtain ⟨w5, hw5⟩ : ∃ w5, w5 = w4.setCells gn (k * 2) (#[.int .i64 z.1, .slice s2 z.2.length c2] : Array Value).toList := ⟨_, rfl⟩
                have HTH5 := Lib.hid hth5
                have HWS5 := Lib.hid hw5.symm
                have KB5 : Hid (Below wq.heap.size w4 w5) := Lib.hid (by rw [hw5]; exact below_put HGB.out _)
                have KC5 := Lib.hid (KB4.out.trans KB5.out)
                clear hth5 hw5
                have hth6 : w5.there gn (k1 * 2) (#[.int .i64 x.1, .slice s1 x.2.length c1] : Array Value).size := by
                  have h := (HNX4.out.put HLT.out.1 (e := z) (s := s2) (d := c2) HY0.out).there (q := k1) (by rw [List.length_set]; exact HKL.out.1) #[.int .i64 x.1, .slice s1 x.2.length c1] rfl
                  rwa [HWS5.out] at h
                obtain ⟨w6, hw6⟩ : ∃ w6, w6 = w5.setCells gn (k1 * 2) (#[.int .i64 x.1, .slice s1 x.2.length c1] : Array Value).toList := ⟨_, rfl⟩
                have HTH6 := Lib.hid hth6
                have HWS6 := Lib.hid hw6.symm
                have KB6 : Hid (Below wq.heap.size w5 w6) := Lib.hid (by rw [hw6]; exact below_put HGB.out _)
                have KC6 := Lib.hid (KC5.out.trans KB6.out)
                have HNX6 := Lib.hid (HSWP.out gn c4 w4 w5 w6 HNX4.out HWS5.out.symm HWS6.out.symm)
                clear hth6 hw6 HSWP
                have c4' := HCq.out w4 KB4.out
                have dd4 := Lib.hid (HYq.out w4 KB4.out)
                have d40 := dd4.out.1
                have d41 := dd4.out.2
                have c5' := HCq.out w5 KC5.out
                have dd5 := Lib.hid (HXq.out w5 KC5.out)
                have d50 := dd5.out.1
                have d51 := dd5.out.2
                go_wp2_with (first | (refine wpList_store_mid rfl 29 (.tmp 67) (.tmp 66) rfl gn (k * 2) #[.int .i64 z.1, .slice s2 z.2.length c2] rfl rfl HTH5.out ev_info (one2 _ _ _ _) ?_; rw [HWS5.out]) | (refine wpList_store_mid rfl 29 (.tmp 78) (.tmp 77) rfl gn (k1 * 2) #[.int .i64 x.1, .slice s1 x.2.length c1] rfl rfl HTH6.out ev_info (one2 _ _ _ _) ?_; rw [HWS6.out]))
                clear c4' d40 d41 c5' d50 d51 dd4 dd5
                have HROW6 := Lib.hid (HROWq.out.on KC6.out)
                have KW6 := Lib.hid (KQ.out.trans (KC6.out.mono KQ.out.size))
                have HNL : Hid ((swpE y k).length = y.length) := Lib.hid (swpE_len y k)
                have hnl := HNL.out
                have HNB1 := Lib.hid (fun (h : swpE y k ∈ T) => HNB.out.met h)
                have HNB2 := Lib.hid (fun (z : List Ev) => (HNB.out.on z))
                have HNB0 := HNB
                have HMET : Hid (∀ S, NbQ S y k → swpE y k ∈ S → NbQ S y k1) := Lib.hid fun S h1 h2 => by rw [HK1.out]; exact h1.met h2
                clear HNB HNX4 KB4 HGB HTH5 HWS5 KB5 KC5 HTH6 HWS6 KB6 KC6 HROWq KQ HCq HXq HYq HELq HNB1
                generalize swpE y k = nx at *
                have HNR : Hid (ReadsW W w6 (.slice (some ⟨gn, 0, none⟩) y.length c4) nx) := Lib.hid (by rw [← hnl]; exact HNX6.out.reads)
                have HEV : Hid (EvsW W w6 (.slice (some ⟨gn, 0, none⟩) y.length c4) nx) := Lib.hid (by rw [← hnl]; exact HNX6.out.evs)
                clear hnl HNX6 HNL
                obtain ⟨G2, hG2⟩ : ∃ G, G = gk := ⟨_, rfl⟩
                subst hG2
                go_wp2
                go_loopg [9, 10] T.length (fun m f mx wr => ∃ p : Nat, m + p = T.length ∧ mx = .int .i64 p ∧ f = .bool ((T.take p).any fun q => decide (q = nx)) ∧ Below w6.heap.size w6 wr)
                case atStart => exact ⟨0, by omega, rfl, by simp, Below.refl _ _⟩
                case round =>
                  rename World => w7
                  obtain ⟨p, hmp, rfl, rfl, hb7⟩ := hrel
                  have HM3 := Lib.hid hmp
                  have K7 := Lib.hid hb7
                  have KW7 := Lib.hid (KW6.out.trans (hb7.mono KW6.out.size))
                  have hp : p ≤ T.length := by omega
                  have hp0 : (0 : Int) ≤ (p : Int) := by omega
                  have HANY := Lib.hid (@anyT_succ (fun q => decide (q = nx)) T p)
                  have HALL : Hid (p = T.length → ((T.take p).any fun q => decide (q = nx)) = decide (nx ∈ T)) := Lib.hid fun h => by rw [h, List.take_length]; exact anyT_mem T nx
                  generalize ((T.take p).any fun q => decide (q = nx)) = f at *
                  clear hmp hb7
                  by_cases hpl : p < T.length
                  · have hpi : (p : Int) < T.length := by omega
                    have HPL := Lib.hid (And.intro hpl trivial)
                    have HAN := Lib.hid (HANY.out hpl)
                    obtain ⟨gs2, u2, uc2, e1, hcell, hel⟩ := HROW6.out.cell hpl
                    injection e1 with e1
                    injection e1 with e1
                    subst e1
                    have c0 := hcell w7 K7.out
                    have HZ := Lib.hid ((hel.on K7.out).readsW.toE KW7.out)
                    generalize T[p] = zz at *
                    clear hpl hcell hel HANY HALL
                    cases f with
                    | true =>
                      go_wp2
                      go_roundg (T.length - (p + 1))
                      case measure => have := HM3.out; have := HPL.out.1; omega
                      case rel => exact ⟨p + 1, by have := HPL.out.1; omega, by go_num, by rw [HAN.out]; rfl, K7.out⟩
                    | false =>
                      go_wp2_with fail
                      refine (rstr_any _ _ zz nx w7 HZ.out ((HNR.out.on K7.out).toE KW7.out)).mono ?_
                      rintro e w8 ⟨rfl, hb8⟩
                      have K8 := Lib.hid (K7.out.trans (hb8.mono K7.out.size))
                      clear hb8 HZ c0
                      try simp only [] at HAN
                      generalize decide (zz = nx) = d at *
                      go_wp2
                      go_roundg (T.length - (p + 1))
                      case measure => have := HM3.out; have := HPL.out.1; omega
                      case rel => exact ⟨p + 1, by have := HPL.out.1; omega, by go_num, by rw [HAN.out, Bool.false_or], K8.out⟩
                  · have hpi : ¬ (p : Int) < T.length := by omega
                    have HF := Lib.hid (HALL.out (by omega))
                    have HROW7 := Lib.hid (HROW6.out.on K7.out)
                    clear HALL HANY hpl
                    by_cases hmem : nx ∈ T
                    · have HN2 := Lib.hid (HMET.out T HNB0.out hmem)
                      rw [decide_eq_true hmem] at HF
                      have hf := HF.out
                      subst hf
                      clear hmem HF
                      go_wp2
                      go_roundg (y.length - k1)
                      case measure => have := HM2.out; have := HK1.out; have := HKL.out.1; omega
                      case rel => exact ⟨T, k1, by have := HKL.out.1; omega, by have := HKL.out.1; omega, HIT.out.1, HIT.out.2, by go_num, HROW7.out, HQ.out, HN2.out, KW7.out⟩
                    · have HN2 := Lib.hid (HMET.out (T ++ [nx]) (HNB2.out nx) (List.mem_append_right _ (List.mem_singleton.2 rfl)))
                      have HQ2 := Lib.hid (HQ.out.push (by have := HIT.out.1; omega) HEQ.out hmem)
                      have HIT2 : Hid (i < (T ++ [nx]).length ∧ (T ++ [nx])[i]? = some y) := Lib.hid ⟨by have := HIT.out.1; rw [List.length_append]; omega, by rw [List.getElem?_append_left HIT.out.1]; exact HIT.out.2⟩
                      rw [decide_eq_false hmem] at HF
                      have hf := HF.out
                      subst hf
                      clear hmem HF
                      have HB8 : Hid (Below w7.heap.size w7 (w7.alloc (.cells #[.slice (some ⟨gn, 0, none⟩) y.length c4] 22))) := Lib.hid ((Below.refl _ _).alloc (Nat.le_refl _) _)
                      go_wp2_with (at_builtin; refine append_rowsx (B := W.heap.size) (W1 := W) rfl _ _ rfl _ (.slice (some ⟨gn, 0, none⟩) y.length c4) T nx w7.heap.size rfl (HROW7.out.on HB8.out) rfl (Blk.new _ _ _) (.inl (HEV.out.on (K7.out.trans (HB8.out.mono K7.out.size)))) (by omega) (Nat.le_trans KW7.out.size HB8.out.size) ?_)
                      intro v9 w9 h9 hk9
                      have HR9 := Lib.hid h9
                      have K9 : Hid (Below W.heap.size W w9) := Lib.hid (KW7.out.trans ((HB8.out.mono KW7.out.size).trans (hk9.below (Nat.le_trans KW7.out.size HB8.out.size) fun k h => by omega)))
                      clear h9 hk9 HB8
                      go_wp2
                      go_roundg (y.length - k1)
                      case measure => have := HM2.out; have := HK1.out; have := HKL.out.1; omega
                      case rel => exact ⟨T ++ [nx], k1, by have := HKL.out.1; omega, by have := HKL.out.1; omega, HIT2.out.1, HIT2.out.2, by go_num, HR9.out, HQ2.out, HN2.out, K9.out⟩
          · have hkli : ¬ (k1 : Int) < y.length := by omega
            clear hk1
            have HQ2 := Lib.hid (HQ.out.next HIT.out.1 (by obtain ⟨q1, q2⟩ := List.getElem?_eq_some_iff.1 HIT.out.2; rw [q2]; exact HYB.out.1) (fun j h1 h2 => by
              obtain ⟨q1, q2⟩ := List.getElem?_eq_some_iff.1 HIT.out.2
              rw [q2] at h1 h2 ⊢
              exact HNB.out j (by have := HK1.out; omega) h1 h2))
            go_wp2
            go_roundg (720 - (i + 1))
            case measure => have := HM.out; have := HIT.out.1; omega
            case rel => exact ⟨T, i + 1, by have := HIT.out.1; omega, HIT.out.1, by go_num, HROW.out, HQ2.out, K3.out⟩
    · have e : i = S.length := by omega
      have hii : ¬ (i : Int) < S.length := by omega
      have HRES := Lib.hid (HMISS.out S (by have h := HQ.out; rwa [e] at h))
      clear e
      go_wp2
      go_ret
      exact ⟨by rw [HRES.out]; rfl, K1.out⟩
end Go.Proofs.Ytfdicndmebhmdaa
