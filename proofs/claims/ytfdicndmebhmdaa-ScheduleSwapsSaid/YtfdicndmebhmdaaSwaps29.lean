/-
  ScheduleSwaps: for all arguments the law returns true, and what came in reads behind the call as before. No condition.
-/
import Derived.Test.YtfdicndmebhmdaaOb
import Derived.Test.YtfdicndmebhmdaaNa
import Derived.Test.YtfdicndmebhmdaaHq
import Derived.Deep.DeepCutAuto
namespace Go.Proofs.Ytfdicndmebhmdaa.scheduleSwaps
open Go.ChangeShapes Go.WideShapes Go.ChangeAt Go.RowKit

def b8 (x : Fin 256) : Value := .int .u8 ((x.val : Nat) : Int)
section
variable {H : Type} {enc : TypeId × Value → H} {W : World}
theorem trod_u8s {n : Nat} {v : Value} {y : DataW H × List MemPlace} (h : DataW.trod enc Try.prog W 0 (fun _ => true) true n 33 [v] = some y) : ∃ xs : List (Fin 256), Reads b8 W v xs := by
  obtain ⟨xs, hx⟩ := open_slc (K := 1) (E := fun _ cs x => cs = [b8 x]) Try.underlying33 (by kernel_rfl) (by omega) (fun n cs y h _ => by
    obtain ⟨k, rfl, _, hw⟩ := DataW.trod_int Try.underlying5 h
    have h1 : (0 : Int) ≤ k ∧ k ≤ 255 := by
      unfold Lit.wf at hw
      rw [Bool.and_eq_true, decide_eq_true_eq, decide_eq_true_eq] at hw
      exact ⟨Int.le_trans (by decide) hw.1, Int.le_trans hw.2 (by decide)⟩
    refine ⟨⟨k.toNat, by omega⟩, ?_⟩
    unfold b8
    rw [show ((k.toNat : Nat) : Int) = k by omega]) h
  exact ⟨xs, hx.one⟩
variable {base : Nat} {v : Value} {d : DataW H} {p : List MemPlace}
theorem open_u8 (hok : Value.okWide Try.prog W .any base 33 v) (h : DataW.Trod enc Try.prog W 0 (fun _ => true) true 33 v d p) : ∃ xs : List (Fin 256), Reads b8 W v xs := by
  obtain ⟨a0, len, cap, rfl⟩ := okWide_slice Try.underlying33 hok
  obtain ⟨fuel, hf⟩ := h
  exact trod_u8s (by simpa only [Value.cells] using hf)
end
theorem u8_at {w : World} {v : Value} {xs : List (Fin 256)} (h : Reads b8 w v xs) {k : Nat} (hk : k < xs.length) : ∃ b off cap, v = .slice (some ⟨b, off, none⟩) xs.length cap ∧ b < w.heap.size ∧ w.cell? ⟨b, off + k, none⟩ = some (b8 xs[k]) := by
  obtain ⟨ao, cap, rfl, _, _, _, hx⟩ := h
  obtain ⟨b, off, rfl, hb, hc⟩ := hx (by rintro rfl; simp at hk)
  exact ⟨b, off, cap, rfl, hb, hc k hk⟩
theorem OutL.cell {B m n c : Nat} {w : World} {a : Option Addr} {LL : Nat → List Int} (h : OutL B w (.slice a n c) m LL) {k : Nat} (hk : k < m) : ∃ ga u c', a = some ⟨ga, 0, none⟩ ∧ (∀ wq, Below w.heap.size w wq → wq.cell? ⟨ga, k, none⟩ = some (.slice u (LL k).length c')) ∧ Reads vi w (.slice u (LL k).length c') (LL k) := by
  obtain ⟨f, h1, h2, -⟩ := h
  obtain ⟨a', c', e⟩ := row_slc h1
  injection e with e1 e2 e3
  subst e1 e2 e3
  obtain ⟨g, rfl, -, h5⟩ := row_at h1 (by omega)
  have h6 := h2 k hk
  obtain ⟨a2, c2, e2⟩ := row_slc h6
  rw [e2] at h6
  exact ⟨g, a2, c2, rfl, fun wq hq => h5 wq hq k _ (by rw [List.getElem?_map, List.getElem?_range hk]; exact congrArg some e2), Reads.of_owns h6⟩
theorem Prj.mem {x y : List Ev} (h : Prj x y) {e : Ev} (he : e ∈ y) : e ∈ x := by
  have h1 := h e e (depE_self e)
  have h2 : e ∈ prj y e e := by unfold prj; rw [List.mem_filter]; exact ⟨he, by simp⟩
  rw [← h1] at h2
  unfold prj at h2
  exact (List.mem_filter.1 h2).1
theorem layE_len {t : List Ev} {k : Nat} (h : k < (layE t).length) : (layE t)[k].length ≤ t.length := by
  have h1 : (layE t)[k] ∈ layE t := List.getElem_mem h
  generalize (layE t)[k] = y at *
  unfold layE at h1
  obtain ⟨l, _, rfl⟩ := List.mem_map.1 h1
  rw [sortI_len]
  exact lyN_len t t.length l
theorem swpE_mem {y : List Ev} {k : Nat} (h : k + 1 < y.length) {e : Ev} (he : e ∈ swpE y k) : e ∈ y := by
  unfold swpE at he
  rcases List.mem_or_eq_of_mem_set he with h1 | h1
  · rcases List.mem_or_eq_of_mem_set h1 with h2 | h2
    · exact h2
    · rw [h2, nthE_eq h]; exact List.getElem_mem _
  · rw [h1, nthE_eq (by omega)]; exact List.getElem_mem _
theorem cnt_prj {x y : List Ev} (h : Prj x y) (lim : Int) : cntE y lim = cntE x lim := by
  rw [cnt_same, cnt_same]; unfold allE; rw [linsE_prj h]
set_option maxRecDepth 100000 in
set_option maxHeartbeats 16000000 in
theorem walk (v u : Value) (t : List Ev) (sw : List (Fin 256)) (W : World) (hr : ReadsE W v t) (hu : Reads b8 W u sw) : Calls Try.prog 5 #[v, u] W (BoolMade W true) := by
  have HR := Lib.hid (And.intro hr hu)
  obtain ⟨ao, cap, rfl, hl, hm, -, -⟩ := hr
  obtain ⟨uo, ucap, rfl, hul, hum, -, -⟩ := hu
  unfold maxLen at hm hum
  go_enter Try.func5, Try.ntmps5
  have KW := Lib.hid (Below.refl W.heap.size W)
  go_wp2_with fail
  refine (awake_any _).mono ?_
  rintro e w1 ⟨rfl, hb⟩
  replace HR := Lib.hid (And.intro (HR.out.1.on hb) (HR.out.2.keep hb))
  replace KW := Lib.hid (KW.out.trans (hb.mono KW.out.size))
  clear hb
  go_wp2_with fail
  refine (rsmall_any _ t 7 w1 HR.out.1).mono ?_
  rintro e ws ⟨rfl, rfl⟩
  cases hs : smB t 7 with
  | false =>
    go_wp2
    go_ret
    exact ⟨rfl, KW.out⟩
  | true =>
    have HSA := Lib.hid hs
    clear hs
    have HST := Lib.hid (SmallT.of HSA.out (by decide))
    have hn : t.length ≤ 7 := by have := (smB_of HSA.out).1; omega
    clear HSA
    by_cases h2 : t.length < 2
    · have h2i : (t.length : Int) < 2 := by omega
      have h2d : decide (t.length < 2) = true := decide_eq_true h2
      go_wp2
      go_ret
      exact ⟨rfl, KW.out⟩
    · have h2i : ¬ (t.length : Int) < 2 := by omega
      have h2d : decide (t.length < 2) = false := decide_eq_false h2
      have HB0 : Hid (Below ws.heap.size ws (ws.alloc (.cells #[] 29))) := Lib.hid ((Below.refl _ _).alloc (Nat.le_refl _) _)
      go_wp2_with (at_builtin; refine append_evw (B := ws.heap.size) (w0 := ws) (W1 := ws) rfl _ _ rfl _ _ [] t rfl (OwnE.made (EvW ws) (Nat.le_refl _) (Nat.le_refl _) (Below.refl _ _)) rfl (HR.out.1.toW.on HB0.out) (by simp; omega) ?_)
      intro v1 w1 h1 hk1
      clear hk1 HB0 h2i h2d
      try rw [List.nil_append] at h1
      obtain ⟨o1, c1, rfl⟩ := h1.slc
      obtain ⟨g1, e1, -, hgB, hnx⟩ := NxE.of_own h1 (by omega)
      subst e1
      have HB1 := Lib.hid h1.1.2.2
      have HN1 := Lib.hid (And.intro hnx hgB)
      have HWS := Lib.hid KW.out
      clear h1 hnx hgB
      obtain ⟨n1, hn1⟩ : ∃ n1, n1 = t.length - 1 := ⟨_, rfl⟩
      have en1 : (t.length : Int) - 1 = (n1 : Int) := by omega
      have ewn : IntKind.i64.wrap (n1 : Int) = (n1 : Int) := IntWalk.i64_in _ (by omega)
      have hn1p : 0 < n1 := by omega
      have HN := Lib.hid (And.intro hn1 hn1p)
      have hn1z : ¬ (n1 : Int) = 0 := by omega
      have hn1z2 : ¬ n1 = 0 := by omega
      have hn1le : n1 ≤ 6 := by omega
      clear hn1
      go_wp2
      go_loopg [5, 6, 7, 8] 20 (fun m o ix _ _ wr => ∃ (i g c : Nat) (NOW : List Ev), m + i = 20 ∧ i ≤ 20 ∧ ix = .int .i64 i ∧ o = .slice (some ⟨g, 0, none⟩) t.length c ∧ NxE ws g c NOW wr ∧ ws.heap.size ≤ g ∧ Prj t NOW ∧ Below ws.heap.size ws wr)
      case atStart => exact ⟨0, _, _, t, by omega, by omega, rfl, rfl, HN1.out.1, HN1.out.2, Prj.refl t, HB1.out⟩
      case round =>
        clear HN1 HB1
        rename World => w2
        obtain ⟨i, g, c, NOW, hmi, hi, rfl, rfl, hnx, hgB, hpr, hb2⟩ := hrel
        have HM := Lib.hid (And.intro hmi hi)
        have HNX := Lib.hid (And.intro hnx hgB)
        have HP := Lib.hid hpr
        have K2 := Lib.hid hb2
        have HLN := Lib.hid hpr.len
        have hi0 : (0 : Int) ≤ (i : Int) := by omega
        clear hmi hnx hgB hpr hb2
        by_cases hgo : i < sw.length ∧ i < 20
        · obtain ⟨hil, hi20⟩ := hgo
          have hii : (i : Int) < sw.length := by omega
          have hii2 : (i : Int) < 20 := by omega
          have hid1 : decide ((i : Int) < 20) = true := decide_eq_true hii2
          have hid2 : decide (i < 20) = true := decide_eq_true hi20
          have HIL := Lib.hid (And.intro hil (And.intro hi20 trivial))
          obtain ⟨ub, uoff, uc1, e1, hub, hucell⟩ := u8_at HR.out.2 hil
          injection e1 with e1 _ e3
          subst e1
          have c0 : w2.cell? ⟨ub, uoff + i, none⟩ = some (b8 sw[i]) := (K2.out.cell (p := ⟨ub, uoff + i, none⟩) hub).trans hucell
          unfold b8 at c0
          have hx8 := sw[i].isLt
          generalize sw[i].val = xb at *
          obtain ⟨k, hk⟩ : ∃ k, k = xb % n1 := ⟨_, rfl⟩
          have hk1 : (xb : Int) % (n1 : Int) = (k : Int) := by rw [hk]; omega
          have hk2 : (xb : Int).tmod (n1 : Int) = (k : Int) := by rw [hk]; rfl
          have hkn : k < n1 := by rw [hk]; exact Nat.mod_lt _ hn1p
          have hxw : IntKind.i64.wrap (xb : Int) = (xb : Int) := IntWalk.i64_in _ (by omega)
          have hkw : IntKind.i64.wrap (k : Int) = (k : Int) := IntWalk.i64_in _ (by omega)
          have HKN := Lib.hid (And.intro hkn trivial)
          have hk0 : (0 : Int) ≤ (k : Int) := by omega
          have HB0 : Hid (Below w2.heap.size w2 (w2.alloc (.cells #[] 29))) := Lib.hid ((Below.refl _ _).alloc (Nat.le_refl _) _)
          have HRN : Hid (ReadsW ws w2 (.slice (some ⟨g, 0, none⟩) t.length c) NOW) := Lib.hid (by rw [HLN.out]; exact HNX.out.1.reads)
          clear hk e3 hub hucell hil hi20
          go_wp2_with (at_builtin; refine append_evw (B := w2.heap.size) (w0 := w2) (W1 := ws) rfl _ _ rfl _ _ [] NOW rfl (OwnE.made (EvW ws) (Nat.le_refl _) (Nat.le_refl _) (Below.refl _ _)) rfl (HRN.out.on HB0.out) (by have := HLN.out; simp; omega) ?_)
          intro v3 w3 h3 hk3
          clear c0 hk3 HB0 hk1 hk2 hxw hid1 hid2
          try rw [List.nil_append] at h3
          obtain ⟨o3, c3, rfl⟩ := h3.slc
          obtain ⟨gn, e1, -, hgN, hnx⟩ := NxE.of_own h3 (by have := HLN.out; omega)
          subst e1
          rw [← HLN.out]
          have KB3 := Lib.hid h3.1.2.2
          have HX3 := Lib.hid hnx
          have HGN := Lib.hid hgN
          have HGN2 := Lib.hid hgN
          clear h3 hnx hgN
          obtain ⟨k1, hk1⟩ : ∃ k1, k1 = k + 1 := ⟨_, rfl⟩
          have ek : (k : Int) + 1 = (k1 : Int) := by omega
          have ew : IntKind.i64.wrap (k1 : Int) = (k1 : Int) := IntWalk.i64_in _ (by omega)
          have hk10 : (0 : Int) ≤ (k1 : Int) := by omega
          have hkt : (k : Int) < t.length := by have := HN.out; omega
          have hk1t : (k1 : Int) < t.length := by have := HN.out; omega
          have hlt : k < NOW.length := by have := HN.out; have := HLN.out; omega
          have hkl : k1 < NOW.length := by have := HN.out; have := HLN.out; omega
          have HKK := Lib.hid (And.intro hlt (And.intro hkl hk1))
          obtain ⟨b1, o1, cap1, s1, d1, hv, hcl1, r1⟩ := HRN.out.at2 hlt
          rw [← HLN.out] at hv
          injection hv with e1 e2 e3
          injection e1 with e1
          injection e1 with e1 e4
          subst e1 e4
          obtain ⟨b2, o2, cap2, s2, d2, hv, hcl2, r2⟩ := HRN.out.at2 hkl
          rw [← HLN.out] at hv
          injection hv with e1 e2' e3'
          injection e1 with e1
          injection e1 with e1 e4
          subst e1 e4
          simp only [Nat.zero_add] at hcl1 hcl2
          have hdi : depI NOW k k1 = depE NOW[k] NOW[k1] := by unfold depI; rw [nthE_eq hlt, nthE_eq hkl]
          have HSEQ : Hid ((NOW.set k NOW[k1]).set k1 NOW[k] = swpE NOW k) := Lib.hid (by unfold swpE; rw [← hk1, nthE_eq hlt, nthE_eq hkl])
          have HSWN : Hid (depI NOW k k1 = true → NOW[k] ≠ NOW[k1] → decide (normE NOW = normE (swpE NOW k)) = false) := Lib.hid (fun h1 h2 => decide_eq_false (swpE_not (by rw [← hk1]; exact hkl) (by rw [← hk1]; exact h1) (by rw [← hk1, nthE_eq hlt, nthE_eq hkl]; exact h2)))
          have HSWP : Hid (depI NOW k k1 = false → Prj t (swpE NOW k)) := Lib.hid (fun h1 => HP.out.trans (swpE_prj (by rw [← hk1]; exact hkl) (by rw [← hk1]; exact h1)))
          have HX := Lib.hid (And.intro hcl1 r1)
          have HY := Lib.hid (And.intro hcl2 r2)
          clear e2 e3 e2' e3' hcl1 hcl2 r1 r2
          generalize NOW[k] = x at *
          generalize NOW[k1] = z at *
          have HDI := Lib.hid hdi
          clear hlt hkl hdi hk1
          generalize hd : depE x z = d at *
          have HD := Lib.hid hd
          clear hd
          have HON := Lib.hid (fun wq (hq : Below w2.heap.size w3 wq) => KB3.out.trans hq)
          have HLAST : Hid (∀ wq, NxE ws gn c3 (NOW.set k z) wq → NxE ws gn c3 (swpE NOW k) (wq.setCells gn (k1 * 2) (#[.int .i64 x.1, .slice s1 x.2.length d1] : Array Value).toList)) := Lib.hid (fun wq h => by
            have h1 := h.put (q := k1) (e := x) (s := s1) (d := d1) (by rw [List.length_set]; exact HKK.out.2.1) HX.out.2
            rwa [HSEQ.out] at h1)
          go_upto_region 11 with fail
          refine region_inv w2.heap.size (JT 15 17 (fun w => NxE ws gn c3 NOW w) (fun w => NxE ws gn c3 (NOW.set k z) w) (fun w => NxE ws gn c3 (swpE NOW k) w)) [some (.slice (some ⟨gn, 0, none⟩) t.length c3), some (.int .i64 (k : Int)), some (.slice (some ⟨gn, 0, none⟩) t.length c3), some (.int .i64 (k : Int)), some (.int .i64 (k1 : Int)), some (.slice (some ⟨g, 0, none⟩) t.length c), some (.int .i64 (k : Int)), some (.int .i64 (k1 : Int)), some (.pointer (some ⟨g, k1 * 2, none⟩)), some (.agg #[.int .i64 z.1, .slice s2 z.2.length d2]), some (.slice (some ⟨g, 0, none⟩) t.length c), some (.int .i64 (k : Int)), some (.pointer (some ⟨g, k * 2, none⟩)), some (.agg #[.int .i64 x.1, .slice s1 x.2.length d1]), some (.pointer (some ⟨gn, k * 2, none⟩)), none, some (.pointer (some ⟨gn, k1 * 2, none⟩)), none] (by kernel_rfl) rfl (by kernel_rfl) (by kernel_rfl) (JT.start HX3.out.drew) (.cons ?z0 (.cons ?z1 (.cons ?z2 (.cons ?z3 (.cons ?z4 (.cons ?z5 (.cons ?z6 (.cons ?z7 (.cons ?z8 (.cons ?z9 (.cons ?z10 (.cons ?z11 (.cons ?z12 (.cons ?z13 (.cons ?z14 (.cons ?z15 (.cons ?z16 (.cons ?z17 .nil)))))))))))))))))) ?zfin
          case z0 =>
            intro wq hbw D st hJ hD hdp K hK
            simp only [Act.put, List.setIfInBounds_toArray, List.set_cons_zero, List.set_cons_succ] at hK ⊢
            unfold opStep
            rw [if_pos (by rfl)]
            go_simp
            exact hK.out _ _ (Below.refl _ _) (fun u hu => Option.some.inj hu) (hJ.pure 0 _ (by decide) (by decide)) _ rfl
          case z1 =>
            intro wq hbw D st hJ hD hdp K hK
            simp only [Act.put, List.setIfInBounds_toArray, List.set_cons_zero, List.set_cons_succ] at hK ⊢
            unfold opStep
            rw [if_pos (by rfl)]
            go_simp
            exact hK.out _ _ (Below.refl _ _) (fun u hu => Option.some.inj hu) (hJ.pure 1 _ (by decide) (by decide)) _ rfl
          case z2 =>
            intro wq hbw D st hJ hD hdp K hK
            simp only [Act.put, List.setIfInBounds_toArray, List.set_cons_zero, List.set_cons_succ] at hK ⊢
            unfold opStep
            rw [if_pos (by rfl)]
            go_simp
            exact hK.out _ _ (Below.refl _ _) (fun u hu => Option.some.inj hu) (hJ.pure 2 _ (by decide) (by decide)) _ rfl
          case z3 =>
            intro wq hbw D st hJ hD hdp K hK
            simp only [Act.put, List.setIfInBounds_toArray, List.set_cons_zero, List.set_cons_succ] at hK ⊢
            unfold opStep
            rw [if_pos (by rfl)]
            go_simp
            exact hK.out _ _ (Below.refl _ _) (fun u hu => Option.some.inj hu) (hJ.pure 3 _ (by decide) (by decide)) _ rfl
          case z4 =>
            intro wq hbw D st hJ hD hdp K hK
            simp only [Act.put, List.setIfInBounds_toArray, List.set_cons_zero, List.set_cons_succ] at hK ⊢
            unfold opStep
            rw [if_pos (by rfl)]
            go_simp
            exact hK.out _ _ (Below.refl _ _) (fun u hu => Option.some.inj hu) (hJ.pure 4 _ (by decide) (by decide)) _ rfl
          case z5 =>
            intro wq hbw D st hJ hD hdp K hK
            simp only [Act.put, List.setIfInBounds_toArray, List.set_cons_zero, List.set_cons_succ] at hK ⊢
            unfold opStep
            rw [if_pos (by rfl)]
            go_simp
            exact hK.out _ _ (Below.refl _ _) (fun u hu => Option.some.inj hu) (hJ.pure 5 _ (by decide) (by decide)) _ rfl
          case z6 =>
            intro wq hbw D st hJ hD hdp K hK
            simp only [Act.put, List.setIfInBounds_toArray, List.set_cons_zero, List.set_cons_succ] at hK ⊢
            unfold opStep
            rw [if_pos (by rfl)]
            go_simp
            exact hK.out _ _ (Below.refl _ _) (fun u hu => Option.some.inj hu) (hJ.pure 6 _ (by decide) (by decide)) _ rfl
          case z7 =>
            intro wq hbw D st hJ hD hdp K hK
            simp only [Act.put, List.setIfInBounds_toArray, List.set_cons_zero, List.set_cons_succ] at hK ⊢
            unfold opStep
            rw [if_pos (by rfl)]
            go_simp
            exact hK.out _ _ (Below.refl _ _) (fun u hu => Option.some.inj hu) (hJ.pure 7 _ (by decide) (by decide)) _ rfl
          case z8 =>
            intro wq hbw D st hJ hD hdp K hK
            simp only [Act.put, List.setIfInBounds_toArray, List.set_cons_zero, List.set_cons_succ] at hK ⊢
            unfold opStep
            rw [if_pos (by rfl)]
            go_simp
            exact hK.out _ _ (Below.refl _ _) (fun u hu => Option.some.inj hu) (hJ.pure 8 _ (by decide) (by decide)) _ rfl
          case z9 =>
            intro wq hbw D st hJ hD hdp K hK
            simp only [Act.put, List.setIfInBounds_toArray, List.set_cons_zero, List.set_cons_succ] at hK ⊢
            unfold opStep
            rw [if_pos (by rfl)]
            have dd := Lib.hid (HY.out.1 wq (HON.out wq hbw))
            have q0 := dd.out.1
            have q1 := dd.out.2
            go_simp
            exact hK.out _ _ (Below.refl _ _) (fun u hu => Option.some.inj hu) (hJ.pure 9 _ (by decide) (by decide)) _ rfl
          case z10 =>
            intro wq hbw D st hJ hD hdp K hK
            simp only [Act.put, List.setIfInBounds_toArray, List.set_cons_zero, List.set_cons_succ] at hK ⊢
            unfold opStep
            rw [if_pos (by rfl)]
            go_simp
            exact hK.out _ _ (Below.refl _ _) (fun u hu => Option.some.inj hu) (hJ.pure 10 _ (by decide) (by decide)) _ rfl
          case z11 =>
            intro wq hbw D st hJ hD hdp K hK
            simp only [Act.put, List.setIfInBounds_toArray, List.set_cons_zero, List.set_cons_succ] at hK ⊢
            unfold opStep
            rw [if_pos (by rfl)]
            go_simp
            exact hK.out _ _ (Below.refl _ _) (fun u hu => Option.some.inj hu) (hJ.pure 11 _ (by decide) (by decide)) _ rfl
          case z12 =>
            intro wq hbw D st hJ hD hdp K hK
            simp only [Act.put, List.setIfInBounds_toArray, List.set_cons_zero, List.set_cons_succ] at hK ⊢
            unfold opStep
            rw [if_pos (by rfl)]
            go_simp
            exact hK.out _ _ (Below.refl _ _) (fun u hu => Option.some.inj hu) (hJ.pure 12 _ (by decide) (by decide)) _ rfl
          case z13 =>
            intro wq hbw D st hJ hD hdp K hK
            simp only [Act.put, List.setIfInBounds_toArray, List.set_cons_zero, List.set_cons_succ] at hK ⊢
            unfold opStep
            rw [if_pos (by rfl)]
            have dd := Lib.hid (HX.out.1 wq (HON.out wq hbw))
            have q0 := dd.out.1
            have q1 := dd.out.2
            go_simp
            exact hK.out _ _ (Below.refl _ _) (fun u hu => Option.some.inj hu) (hJ.pure 13 _ (by decide) (by decide)) _ rfl
          case z14 =>
            intro wq hbw D st hJ hD hdp K hK
            simp only [Act.put, List.setIfInBounds_toArray, List.set_cons_zero, List.set_cons_succ] at hK ⊢
            unfold opStep
            rw [if_pos (by rfl)]
            go_simp
            exact hK.out _ _ (Below.refl _ _) (fun u hu => Option.some.inj hu) (hJ.pure 14 _ (by decide) (by decide)) _ rfl
          case z15 =>
            intro wq hbw D st hJ hD hdp K hK
            simp only [Act.put, List.setIfInBounds_toArray, List.set_cons_zero, List.set_cons_succ] at hK ⊢
            unfold opStep
            rw [if_pos (by rfl)]
            have hA := hJ.atA hD
            refine wp_store_mid 29 (.tmp 62) (.tmp 57) (by rfl) gn (k * 2) #[.int .i64 z.1, .slice s2 z.2.length d2] (by rfl) (by rfl) (hA.there HKK.out.1 _ rfl) ev_info (one2 _ _ _ _) ?_
            exact hK.out _ _ (below_put HGN.out _) (fun u hu => by cases hu) (hJ.s1 hD (by decide) (hA.put HKK.out.1 HY.out.2) undef) _ rfl
          case z16 =>
            intro wq hbw D st hJ hD hdp K hK
            simp only [Act.put, List.setIfInBounds_toArray, List.set_cons_zero, List.set_cons_succ] at hK ⊢
            unfold opStep
            rw [if_pos (by rfl)]
            go_simp
            exact hK.out _ _ (Below.refl _ _) (fun u hu => Option.some.inj hu) (hJ.pure 16 _ (by decide) (by decide)) _ rfl
          case z17 =>
            intro wq hbw D st hJ hD hdp K hK
            simp only [Act.put, List.setIfInBounds_toArray, List.set_cons_zero, List.set_cons_succ] at hK ⊢
            unfold opStep
            rw [if_pos (by rfl)]
            have d15 := hdp 15 (of_decide_eq_true (by kernel_rfl))
            have hA := hJ.atB d15 hD
            refine wp_store_mid 29 (.tmp 63) (.tmp 61) (by rfl) gn (k1 * 2) #[.int .i64 x.1, .slice s1 x.2.length d1] (by rfl) (by rfl) (hA.there (by rw [List.length_set]; exact HKK.out.2.1) _ rfl) ev_info (one2 _ _ _ _) ?_
            exact hK.out _ _ (below_put HGN.out _) (fun u hu => by cases hu) (hJ.s2 d15 (by decide) (HLAST.out wq hA) undef) _ rfl
          case zfin =>
            intro w4 hbw D st hall hJ
            simp only [FinAll, lfOf]
            simp only [Act.put, List.setIfInBounds_toArray, List.set_cons_zero, List.set_cons_succ]
            have HN4 := Lib.hid (hJ.fin (hall 17 (by decide)))
            have KG4 := Lib.hid (KB3.out.trans hbw)
            have K4 := Lib.hid (K2.out.trans (KG4.out.mono K2.out.size))
            clear hJ hall hbw HLAST HX3 HON HGN KB3
            generalize st 15 = x15
            generalize st 17 = x17
            skip
            have HNL : Hid ((swpE NOW k).length = t.length) := Lib.hid (by rw [swpE_len]; exact HLN.out.symm)
            have HPM := Lib.hid (fun e (he : e ∈ NOW) => HST.out.2 e (Prj.mem HP.out he))
            have HSMN : Hid (SmallT NOW) := Lib.hid ⟨by have := HLN.out; omega, HPM.out⟩
            have HSMX : Hid (SmallT (swpE NOW k)) := Lib.hid ⟨by have := HNL.out; omega, fun e he => HPM.out e (swpE_mem (by have := HKK.out.2; omega) he)⟩
            have HX4 := Lib.hid (fun wq (hq : Below w4.heap.size w4 wq) => HX.out.1 wq (KG4.out.trans (hq.mono KG4.out.size)))
            have HY4 := Lib.hid (fun wq (hq : Below w4.heap.size w4 wq) => HY.out.1 wq (KG4.out.trans (hq.mono KG4.out.size)))
            have HR12 := Lib.hid (And.intro HX.out.2 HY.out.2)
            have HNN := Lib.hid ((HRN.out.on KG4.out).toE K4.out)
            clear HX HY HRN
            generalize swpE NOW k = NX at *
            have HXR : Hid (ReadsE w4 (.slice (some ⟨gn, 0, none⟩) t.length c3) NX) := Lib.hid (by rw [← HNL.out]; exact HN4.out.reads.toE K4.out)
            go_wp2_with fail
            refine region_left [.is (.slice (some ⟨g, 0, none⟩) t.length c), .is (.int .i64 (k : Int)), .is (.pointer (some ⟨g, k * 2, none⟩)), .is (.agg #[.int .i64 x.1, .slice s1 x.2.length d1]), .is (.slice (some ⟨g, 0, none⟩) t.length c), .is (.int .i64 (k : Int)), .is (.int .i64 (k1 : Int)), .is (.pointer (some ⟨g, k1 * 2, none⟩)), .is (.agg #[.int .i64 z.1, .slice s2 z.2.length d2]), .is (.bool d)] (by kernel_rfl) rfl (by kernel_rfl) (by kernel_rfl) (.cons ?a0 (.cons ?a1 (.cons ?a2 (.cons ?a3 (.cons ?a4 (.cons ?a5 (.cons ?a6 (.cons ?a7 (.cons ?a8 (.cons ?a9 .nil)))))))))) ?afin
            case a0 =>
              intro wq hbw st  K hK
              simp only [Act.put, List.setIfInBounds_toArray, List.set_cons_zero, List.set_cons_succ] at hK ⊢
              unfold opStep
              rw [if_pos (by rfl)]
              go_simp
              exact hK.out _ _ (Below.refl _ _) rfl _ rfl
            case a1 =>
              intro wq hbw st  K hK
              simp only [Act.put, List.setIfInBounds_toArray, List.set_cons_zero, List.set_cons_succ] at hK ⊢
              unfold opStep
              rw [if_pos (by rfl)]
              go_simp
              exact hK.out _ _ (Below.refl _ _) rfl _ rfl
            case a2 =>
              intro wq hbw st  K hK
              simp only [Act.put, List.setIfInBounds_toArray, List.set_cons_zero, List.set_cons_succ] at hK ⊢
              unfold opStep
              rw [if_pos (by rfl)]
              go_simp
              exact hK.out _ _ (Below.refl _ _) rfl _ rfl
            case a3 =>
              intro wq hbw st  K hK
              simp only [Act.put, List.setIfInBounds_toArray, List.set_cons_zero, List.set_cons_succ] at hK ⊢
              unfold opStep
              rw [if_pos (by rfl)]
              have dd := Lib.hid (HX4.out wq hbw)
              have q0 := dd.out.1
              have q1 := dd.out.2
              go_simp
              exact hK.out _ _ (Below.refl _ _) rfl _ rfl
            case a4 =>
              intro wq hbw st  K hK
              simp only [Act.put, List.setIfInBounds_toArray, List.set_cons_zero, List.set_cons_succ] at hK ⊢
              unfold opStep
              rw [if_pos (by rfl)]
              go_simp
              exact hK.out _ _ (Below.refl _ _) rfl _ rfl
            case a5 =>
              intro wq hbw st  K hK
              simp only [Act.put, List.setIfInBounds_toArray, List.set_cons_zero, List.set_cons_succ] at hK ⊢
              unfold opStep
              rw [if_pos (by rfl)]
              go_simp
              exact hK.out _ _ (Below.refl _ _) rfl _ rfl
            case a6 =>
              intro wq hbw st  K hK
              simp only [Act.put, List.setIfInBounds_toArray, List.set_cons_zero, List.set_cons_succ] at hK ⊢
              unfold opStep
              rw [if_pos (by rfl)]
              go_simp
              exact hK.out _ _ (Below.refl _ _) rfl _ rfl
            case a7 =>
              intro wq hbw st  K hK
              simp only [Act.put, List.setIfInBounds_toArray, List.set_cons_zero, List.set_cons_succ] at hK ⊢
              unfold opStep
              rw [if_pos (by rfl)]
              go_simp
              exact hK.out _ _ (Below.refl _ _) rfl _ rfl
            case a8 =>
              intro wq hbw st  K hK
              simp only [Act.put, List.setIfInBounds_toArray, List.set_cons_zero, List.set_cons_succ] at hK ⊢
              unfold opStep
              rw [if_pos (by rfl)]
              have dd := Lib.hid (HY4.out wq hbw)
              have q0 := dd.out.1
              have q1 := dd.out.2
              go_simp
              exact hK.out _ _ (Below.refl _ _) rfl _ rfl
            case a9 =>
              intro wq hbw st  K hK
              simp only [Act.put, List.setIfInBounds_toArray, List.set_cons_zero, List.set_cons_succ] at hK ⊢
              unfold opStep
              rw [if_pos (by rfl)]
              go_simp
              have KQ := K4.out.trans (hbw.mono K4.out.size)
              have hpc := dep_any _ _ x z wq ⟨_, rfl, HR12.out.1.keep KQ⟩ ⟨_, rfl, HR12.out.2.keep KQ⟩
              rw [HD.out] at hpc
              refine hpc.mono ?_
              rintro e wz ⟨rfl, hbz⟩
              go_simp
              exact hK.out _ _ hbz rfl _ rfl
            case afin =>
              intro wq hbw
              try simp only [FinAll]
              simp only [Act.put, List.setIfInBounds_toArray, List.set_cons_zero, List.set_cons_succ]
              have K5 := Lib.hid (K4.out.trans (hbw.mono K4.out.size))
              have B5 := Lib.hid hbw
              clear hbw
              rename World => w5
              cases d with
              | true =>
                by_cases hxz : x = z
                · have HS : Hid (decide (x = z) = true) := Lib.hid (decide_eq_true hxz)
                  have HX5 := Lib.hid (fun wq (hq : Below w5.heap.size w5 wq) => HX4.out wq (B5.out.trans (hq.mono B5.out.size)))
                  have HY5 := Lib.hid (fun wq (hq : Below w5.heap.size w5 wq) => HY4.out wq (B5.out.trans (hq.mono B5.out.size)))
                  have HNN5 := Lib.hid (HNN.out.on B5.out)
                  have HXR5 := Lib.hid (HXR.out.on B5.out)
                  clear hxz HX4 HY4 HNN HXR
                  go_wp2_with fail
                  refine region_left [.is (.slice (some ⟨g, 0, none⟩) t.length c), .is (.int .i64 (k : Int)), .is (.pointer (some ⟨g, k * 2, none⟩)), .is (.agg #[.int .i64 x.1, .slice s1 x.2.length d1]), .is (.slice (some ⟨g, 0, none⟩) t.length c), .is (.int .i64 (k : Int)), .is (.int .i64 (k1 : Int)), .is (.pointer (some ⟨g, k1 * 2, none⟩)), .is (.agg #[.int .i64 z.1, .slice s2 z.2.length d2]), .is (.bool true), .is (.bool false), .is (.bool false), .is undef, .is undef, .is undef, .is (.bool false)] (by kernel_rfl) rfl (by kernel_rfl) (by kernel_rfl) (.cons ?b0 (.cons ?b1 (.cons ?b2 (.cons ?b3 (.cons ?b4 (.cons ?b5 (.cons ?b6 (.cons ?b7 (.cons ?b8 (.cons ?b9 (.cons ?b10 (.cons ?b11 (.cons ?b12 (.cons ?b13 (.cons ?b14 (.cons ?b15 .nil)))))))))))))))) ?bfin
                  case b0 =>
                    intro wq hbw st  K hK
                    simp only [Act.put, List.setIfInBounds_toArray, List.set_cons_zero, List.set_cons_succ] at hK ⊢
                    unfold opStep
                    rw [if_pos (by rfl)]
                    go_simp
                    exact hK.out _ _ (Below.refl _ _) rfl _ rfl
                  case b1 =>
                    intro wq hbw st  K hK
                    simp only [Act.put, List.setIfInBounds_toArray, List.set_cons_zero, List.set_cons_succ] at hK ⊢
                    unfold opStep
                    rw [if_pos (by rfl)]
                    go_simp
                    exact hK.out _ _ (Below.refl _ _) rfl _ rfl
                  case b2 =>
                    intro wq hbw st  K hK
                    simp only [Act.put, List.setIfInBounds_toArray, List.set_cons_zero, List.set_cons_succ] at hK ⊢
                    unfold opStep
                    rw [if_pos (by rfl)]
                    go_simp
                    exact hK.out _ _ (Below.refl _ _) rfl _ rfl
                  case b3 =>
                    intro wq hbw st  K hK
                    simp only [Act.put, List.setIfInBounds_toArray, List.set_cons_zero, List.set_cons_succ] at hK ⊢
                    unfold opStep
                    rw [if_pos (by rfl)]
                    have dd := Lib.hid (HX5.out wq hbw)
                    have q0 := dd.out.1
                    have q1 := dd.out.2
                    go_simp
                    exact hK.out _ _ (Below.refl _ _) rfl _ rfl
                  case b4 =>
                    intro wq hbw st  K hK
                    simp only [Act.put, List.setIfInBounds_toArray, List.set_cons_zero, List.set_cons_succ] at hK ⊢
                    unfold opStep
                    rw [if_pos (by rfl)]
                    go_simp
                    exact hK.out _ _ (Below.refl _ _) rfl _ rfl
                  case b5 =>
                    intro wq hbw st  K hK
                    simp only [Act.put, List.setIfInBounds_toArray, List.set_cons_zero, List.set_cons_succ] at hK ⊢
                    unfold opStep
                    rw [if_pos (by rfl)]
                    go_simp
                    exact hK.out _ _ (Below.refl _ _) rfl _ rfl
                  case b6 =>
                    intro wq hbw st  K hK
                    simp only [Act.put, List.setIfInBounds_toArray, List.set_cons_zero, List.set_cons_succ] at hK ⊢
                    unfold opStep
                    rw [if_pos (by rfl)]
                    go_simp
                    exact hK.out _ _ (Below.refl _ _) rfl _ rfl
                  case b7 =>
                    intro wq hbw st  K hK
                    simp only [Act.put, List.setIfInBounds_toArray, List.set_cons_zero, List.set_cons_succ] at hK ⊢
                    unfold opStep
                    rw [if_pos (by rfl)]
                    go_simp
                    exact hK.out _ _ (Below.refl _ _) rfl _ rfl
                  case b8 =>
                    intro wq hbw st  K hK
                    simp only [Act.put, List.setIfInBounds_toArray, List.set_cons_zero, List.set_cons_succ] at hK ⊢
                    unfold opStep
                    rw [if_pos (by rfl)]
                    have dd := Lib.hid (HY5.out wq hbw)
                    have q0 := dd.out.1
                    have q1 := dd.out.2
                    go_simp
                    exact hK.out _ _ (Below.refl _ _) rfl _ rfl
                  case b9 =>
                    intro wq hbw st  K hK
                    simp only [Act.put, List.setIfInBounds_toArray, List.set_cons_zero, List.set_cons_succ] at hK ⊢
                    unfold opStep
                    rw [if_pos (by rfl)]
                    go_simp
                    have KQ := K5.out.trans (hbw.mono K5.out.size)
                    have hpc := rsame_any _ _ x z wq ⟨_, rfl, HR12.out.1.keep KQ⟩ ⟨_, rfl, HR12.out.2.keep KQ⟩
                    rw [HS.out] at hpc
                    refine hpc.mono ?_
                    rintro e wz ⟨rfl, hbz⟩
                    go_simp
                    exact hK.out _ _ hbz rfl _ rfl
                  case b10 =>
                    intro wq hbw st  K hK
                    simp only [Act.put, List.setIfInBounds_toArray, List.set_cons_zero, List.set_cons_succ] at hK ⊢
                    unfold opStep
                    rw [if_pos (by rfl)]
                    go_simp
                    exact hK.out _ _ (Below.refl _ _) rfl _ rfl
                  case b11 =>
                    intro wq hbw st  K hK
                    simp only [Act.put, List.setIfInBounds_toArray, List.set_cons_zero, List.set_cons_succ] at hK ⊢
                    unfold opStep
                    rw [if_pos (by rfl)]
                    go_simp
                    exact hK.out _ _ (Below.refl _ _) rfl _ rfl
                  case b12 =>
                    intro wq hbw st  K hK
                    simp only [Act.put, List.setIfInBounds_toArray, List.set_cons_zero, List.set_cons_succ] at hK ⊢
                    unfold opStep
                    rw [if_neg (by change ¬ (false = true); exact Bool.false_ne_true)]
                    exact hK.out _ _ (Below.refl _ _) rfl _ rfl
                  case b13 =>
                    intro wq hbw st  K hK
                    simp only [Act.put, List.setIfInBounds_toArray, List.set_cons_zero, List.set_cons_succ] at hK ⊢
                    unfold opStep
                    rw [if_neg (by change ¬ (false = true); exact Bool.false_ne_true)]
                    exact hK.out _ _ (Below.refl _ _) rfl _ rfl
                  case b14 =>
                    intro wq hbw st  K hK
                    simp only [Act.put, List.setIfInBounds_toArray, List.set_cons_zero, List.set_cons_succ] at hK ⊢
                    unfold opStep
                    rw [if_neg (by change ¬ (false = true); exact Bool.false_ne_true)]
                    exact hK.out _ _ (Below.refl _ _) rfl _ rfl
                  case b15 =>
                    intro wq hbw st  K hK
                    simp only [Act.put, List.setIfInBounds_toArray, List.set_cons_zero, List.set_cons_succ] at hK ⊢
                    unfold opStep
                    rw [if_pos (by rfl)]
                    go_simp
                    exact hK.out _ _ (Below.refl _ _) rfl _ rfl
                  case bfin =>
                    intro wq hbw
                    try simp only [FinAll]
                    simp only [Act.put, List.setIfInBounds_toArray, List.set_cons_zero, List.set_cons_succ]
                    have K6 := Lib.hid (K5.out.trans (hbw.mono K5.out.size))
                    have B6 := Lib.hid (B5.out.trans (hbw.mono B5.out.size))
                    clear hbw
                    have HN6 := Lib.hid (HNX.out.1.on (KG4.out.trans (B6.out.mono KG4.out.size)))
                    go_wp2
                    go_roundg (20 - (i + 1))
                    case measure => have := HM.out; have := HIL.out; omega
                    case rel => exact ⟨i + 1, g, c, NOW, by have := HIL.out; omega, by have := HIL.out; omega, by go_num, rfl, HN6.out, HNX.out.2, HP.out, K6.out⟩
                · have HS : Hid (decide (x = z) = false) := Lib.hid (decide_eq_false hxz)
                  have HX5 := Lib.hid (fun wq (hq : Below w5.heap.size w5 wq) => HX4.out wq (B5.out.trans (hq.mono B5.out.size)))
                  have HY5 := Lib.hid (fun wq (hq : Below w5.heap.size w5 wq) => HY4.out wq (B5.out.trans (hq.mono B5.out.size)))
                  have HNN5 := Lib.hid (HNN.out.on B5.out)
                  have HXR5 := Lib.hid (HXR.out.on B5.out)
                  have HEQV := Lib.hid (HSWN.out HDI.out hxz)
                  clear hxz HX4 HY4 HNN HXR
                  go_wp2_with fail
                  refine region_left [.is (.slice (some ⟨g, 0, none⟩) t.length c), .is (.int .i64 (k : Int)), .is (.pointer (some ⟨g, k * 2, none⟩)), .is (.agg #[.int .i64 x.1, .slice s1 x.2.length d1]), .is (.slice (some ⟨g, 0, none⟩) t.length c), .is (.int .i64 (k : Int)), .is (.int .i64 (k1 : Int)), .is (.pointer (some ⟨g, k1 * 2, none⟩)), .is (.agg #[.int .i64 z.1, .slice s2 z.2.length d2]), .is (.bool false), .is (.bool true), .is (.bool true), .is (.slice (some ⟨g, 0, none⟩) t.length c), .is (.slice (some ⟨gn, 0, none⟩) t.length c3), .is (.bool false), .is (.bool false)] (by kernel_rfl) rfl (by kernel_rfl) (by kernel_rfl) (.cons ?c0 (.cons ?c1 (.cons ?c2 (.cons ?c3 (.cons ?c4 (.cons ?c5 (.cons ?c6 (.cons ?c7 (.cons ?c8 (.cons ?c9 (.cons ?c10 (.cons ?c11 (.cons ?c12 (.cons ?c13 (.cons ?c14 (.cons ?c15 .nil)))))))))))))))) ?cfin
                  case c0 =>
                    intro wq hbw st  K hK
                    simp only [Act.put, List.setIfInBounds_toArray, List.set_cons_zero, List.set_cons_succ] at hK ⊢
                    unfold opStep
                    rw [if_pos (by rfl)]
                    go_simp
                    exact hK.out _ _ (Below.refl _ _) rfl _ rfl
                  case c1 =>
                    intro wq hbw st  K hK
                    simp only [Act.put, List.setIfInBounds_toArray, List.set_cons_zero, List.set_cons_succ] at hK ⊢
                    unfold opStep
                    rw [if_pos (by rfl)]
                    go_simp
                    exact hK.out _ _ (Below.refl _ _) rfl _ rfl
                  case c2 =>
                    intro wq hbw st  K hK
                    simp only [Act.put, List.setIfInBounds_toArray, List.set_cons_zero, List.set_cons_succ] at hK ⊢
                    unfold opStep
                    rw [if_pos (by rfl)]
                    go_simp
                    exact hK.out _ _ (Below.refl _ _) rfl _ rfl
                  case c3 =>
                    intro wq hbw st  K hK
                    simp only [Act.put, List.setIfInBounds_toArray, List.set_cons_zero, List.set_cons_succ] at hK ⊢
                    unfold opStep
                    rw [if_pos (by rfl)]
                    have dd := Lib.hid (HX5.out wq hbw)
                    have q0 := dd.out.1
                    have q1 := dd.out.2
                    go_simp
                    exact hK.out _ _ (Below.refl _ _) rfl _ rfl
                  case c4 =>
                    intro wq hbw st  K hK
                    simp only [Act.put, List.setIfInBounds_toArray, List.set_cons_zero, List.set_cons_succ] at hK ⊢
                    unfold opStep
                    rw [if_pos (by rfl)]
                    go_simp
                    exact hK.out _ _ (Below.refl _ _) rfl _ rfl
                  case c5 =>
                    intro wq hbw st  K hK
                    simp only [Act.put, List.setIfInBounds_toArray, List.set_cons_zero, List.set_cons_succ] at hK ⊢
                    unfold opStep
                    rw [if_pos (by rfl)]
                    go_simp
                    exact hK.out _ _ (Below.refl _ _) rfl _ rfl
                  case c6 =>
                    intro wq hbw st  K hK
                    simp only [Act.put, List.setIfInBounds_toArray, List.set_cons_zero, List.set_cons_succ] at hK ⊢
                    unfold opStep
                    rw [if_pos (by rfl)]
                    go_simp
                    exact hK.out _ _ (Below.refl _ _) rfl _ rfl
                  case c7 =>
                    intro wq hbw st  K hK
                    simp only [Act.put, List.setIfInBounds_toArray, List.set_cons_zero, List.set_cons_succ] at hK ⊢
                    unfold opStep
                    rw [if_pos (by rfl)]
                    go_simp
                    exact hK.out _ _ (Below.refl _ _) rfl _ rfl
                  case c8 =>
                    intro wq hbw st  K hK
                    simp only [Act.put, List.setIfInBounds_toArray, List.set_cons_zero, List.set_cons_succ] at hK ⊢
                    unfold opStep
                    rw [if_pos (by rfl)]
                    have dd := Lib.hid (HY5.out wq hbw)
                    have q0 := dd.out.1
                    have q1 := dd.out.2
                    go_simp
                    exact hK.out _ _ (Below.refl _ _) rfl _ rfl
                  case c9 =>
                    intro wq hbw st  K hK
                    simp only [Act.put, List.setIfInBounds_toArray, List.set_cons_zero, List.set_cons_succ] at hK ⊢
                    unfold opStep
                    rw [if_pos (by rfl)]
                    go_simp
                    have KQ := K5.out.trans (hbw.mono K5.out.size)
                    have hpc := rsame_any _ _ x z wq ⟨_, rfl, HR12.out.1.keep KQ⟩ ⟨_, rfl, HR12.out.2.keep KQ⟩
                    rw [HS.out] at hpc
                    refine hpc.mono ?_
                    rintro e wz ⟨rfl, hbz⟩
                    go_simp
                    exact hK.out _ _ hbz rfl _ rfl
                  case c10 =>
                    intro wq hbw st  K hK
                    simp only [Act.put, List.setIfInBounds_toArray, List.set_cons_zero, List.set_cons_succ] at hK ⊢
                    unfold opStep
                    rw [if_pos (by rfl)]
                    go_simp
                    exact hK.out _ _ (Below.refl _ _) rfl _ rfl
                  case c11 =>
                    intro wq hbw st  K hK
                    simp only [Act.put, List.setIfInBounds_toArray, List.set_cons_zero, List.set_cons_succ] at hK ⊢
                    unfold opStep
                    rw [if_pos (by rfl)]
                    go_simp
                    exact hK.out _ _ (Below.refl _ _) rfl _ rfl
                  case c12 =>
                    intro wq hbw st  K hK
                    simp only [Act.put, List.setIfInBounds_toArray, List.set_cons_zero, List.set_cons_succ] at hK ⊢
                    unfold opStep
                    rw [if_pos (by rfl)]
                    go_simp
                    exact hK.out _ _ (Below.refl _ _) rfl _ rfl
                  case c13 =>
                    intro wq hbw st  K hK
                    simp only [Act.put, List.setIfInBounds_toArray, List.set_cons_zero, List.set_cons_succ] at hK ⊢
                    unfold opStep
                    rw [if_pos (by rfl)]
                    go_simp
                    exact hK.out _ _ (Below.refl _ _) rfl _ rfl
                  case c14 =>
                    intro wq hbw st  K hK
                    simp only [Act.put, List.setIfInBounds_toArray, List.set_cons_zero, List.set_cons_succ] at hK ⊢
                    unfold opStep
                    rw [if_pos (by rfl)]
                    go_simp
                    have hpc := equiv_any _ _ NOW NX wq (HNN5.out.on hbw) (HXR5.out.on hbw) HSMN.out HSMX.out
                    rw [HEQV.out] at hpc
                    refine hpc.mono ?_
                    rintro e wz ⟨rfl, hbz⟩
                    go_simp
                    exact hK.out _ _ hbz rfl _ rfl
                  case c15 =>
                    intro wq hbw st  K hK
                    simp only [Act.put, List.setIfInBounds_toArray, List.set_cons_zero, List.set_cons_succ] at hK ⊢
                    unfold opStep
                    rw [if_pos (by rfl)]
                    go_simp
                    exact hK.out _ _ (Below.refl _ _) rfl _ rfl
                  case cfin =>
                    intro wq hbw
                    try simp only [FinAll]
                    simp only [Act.put, List.setIfInBounds_toArray, List.set_cons_zero, List.set_cons_succ]
                    have K6 := Lib.hid (K5.out.trans (hbw.mono K5.out.size))
                    have B6 := Lib.hid (B5.out.trans (hbw.mono B5.out.size))
                    clear hbw
                    have HN6 := Lib.hid (HNX.out.1.on (KG4.out.trans (B6.out.mono KG4.out.size)))
                    go_wp2
                    go_roundg (20 - (i + 1))
                    case measure => have := HM.out; have := HIL.out; omega
                    case rel => exact ⟨i + 1, g, c, NOW, by have := HIL.out; omega, by have := HIL.out; omega, by go_num, rfl, HN6.out, HNX.out.2, HP.out, K6.out⟩
              | false =>
                have HPX := Lib.hid (HSWP.out HDI.out)
                have HEQV : Hid (decide (normE t = normE NX) = true) := Lib.hid (decide_eq_true (prj_norm.2 HPX.out))
                have HXR5 := Lib.hid (HXR.out.on B5.out)
                clear HX4 HY4 HNN HXR
                go_wp2_with fail
                refine (equiv_any _ _ t NX w5 (HR.out.1.on K5.out) HXR5.out HST.out HSMX.out).mono ?_
                rintro e w6 ⟨rfl, hb6⟩
                rw [HEQV.out]
                have K6 := Lib.hid (K5.out.trans (hb6.mono K5.out.size))
                have HN6 := Lib.hid (HN4.out.on (B5.out.trans (hb6.mono B5.out.size)))
                have HGN6 : Hid (ws.heap.size ≤ gn) := Lib.hid (Nat.le_trans K2.out.size HGN2.out)
                clear hb6
                go_wp2
                go_roundg (20 - (i + 1))
                case measure => have := HM.out; have := HIL.out; omega
                case rel => exact ⟨i + 1, gn, c3, NX, by have := HIL.out; omega, by have := HIL.out; omega, by go_num, rfl, HN6.out, HGN6.out, HPX.out, K6.out⟩
        · by_cases hil : i < sw.length
          · have hii : (i : Int) < sw.length := by omega
            have hi20 : ¬ i < 20 := fun h => hgo ⟨hil, h⟩
            have hid1 : decide ((i : Int) < 20) = false := decide_eq_false (by omega)
            have hid2 : decide (i < 20) = false := decide_eq_false hi20
            clear hgo hil hi20
            have HRW := Lib.hid (HR.out.1.on K2.out)
            have HRN := Lib.hid ((ReadsW.toE (by rw [HLN.out]; exact HNX.out.1.reads : ReadsW ws w2 (.slice (some ⟨g, 0, none⟩) t.length c) NOW) K2.out))
            have HPM := Lib.hid (fun e (he : e ∈ NOW) => HST.out.2 e (Prj.mem HP.out he))
            have HSMN : Hid (SmallT NOW) := Lib.hid ⟨by have := HLN.out; omega, HPM.out⟩
            have KF := Lib.hid (KW.out.trans (K2.out.mono KW.out.size))
            have HCT := Lib.hid (cnt_prj HP.out 10000)
            have HLE := Lib.hid (layE_prj HP.out)
            have HNE : Hid (decide (normE t = normE NOW) = true) := Lib.hid (decide_eq_true (prj_norm.2 HP.out))
            have hnow : NOW.length ≤ 7 := by have := HLN.out; omega
            clear HNX HPM K2 HM hi hi0 hn1p hn1z hn1z2 en1 ewn hn1le
            go_wp2_with fail
            refine (layers_any _ t w2 HRW.out (by omega)).mono ?_
            rintro e w3 ⟨va, BA, LA, rfl, hoa, hla, hb⟩
            have HA := Lib.hid (And.intro hoa hla)
            obtain ⟨fa, hfa, -⟩ := hoa
            obtain ⟨aa, ac, rfl⟩ := row_slc hfa
            replace HRW := Lib.hid (HRW.out.on hb)
            replace HRN := Lib.hid (HRN.out.on hb)
            replace KF := Lib.hid (KF.out.trans (hb.mono KF.out.size))
            clear hfa hla hb
            go_wp2_with fail
            refine (layers_any _ NOW w3 HRN.out (by omega)).mono ?_
            rintro e w4 ⟨vb, BB, LB, rfl, hob, hlb, hb⟩
            rw [← HLE.out] at hob hlb
            have HZ := Lib.hid (And.intro hob hlb)
            obtain ⟨fb, hfb, -⟩ := hob
            obtain ⟨ba, bc, rfl⟩ := row_slc hfb
            have HAK := Lib.hid (fun wq (hq : Below w4.heap.size w4 wq) => hb.trans (hq.mono hb.size))
            replace HRW := Lib.hid (HRW.out.on hb)
            replace HRN := Lib.hid (HRN.out.on hb)
            replace KF := Lib.hid (KF.out.trans (hb.mono KF.out.size))
            clear hfb hlb hb
            have hLn : (layE t).length ≤ 7 := by unfold layE; rw [List.length_map, List.length_range]; have := nl_le t t.length; omega
            have hLr : ∀ k (h : k < (layE t).length), (layE t)[k].length ≤ 7 := fun k h => Nat.le_trans (layE_len h) hn
            have HLR := Lib.hid hLr
            have hne0 : (((layE t).length : Int) != ((layE t).length : Int)) = false := by simp
            have hne1 : (cntE t 10000 != cntE t 10000) = false := by simp
            clear hLr
            generalize layE t = LL at *
            go_wp2_with fail
            refine (count_any _ t 10000 w4 HRW.out (by omega) (by omega)).mono ?_
            rintro e w5 ⟨rfl, hb⟩
            have K5 := Lib.hid hb
            replace HRW := Lib.hid (HRW.out.on hb)
            replace HRN := Lib.hid (HRN.out.on hb)
            replace KF := Lib.hid (KF.out.trans (hb.mono KF.out.size))
            clear hb
            go_wp2_with fail
            refine (count_any _ NOW 10000 w5 HRN.out (by omega) (by omega)).mono ?_
            rintro e w6 ⟨rfl, hb⟩
            rw [HCT.out]
            have K6 := Lib.hid (K5.out.trans (hb.mono K5.out.size))
            replace HRW := Lib.hid (HRW.out.on hb)
            replace HRN := Lib.hid (HRN.out.on hb)
            replace KF := Lib.hid (KF.out.trans (hb.mono KF.out.size))
            clear hb K5
            generalize cntE t 10000 = cn at *
            go_wp2_with fail
            refine (normal_any _ t w6 HRW.out HST.out).mono ?_
            rintro e w7 ⟨v7, rfl, h7⟩
            have hb := h7.1.2.2
            have H7 := Lib.hid (NormMade.reads h7)
            obtain ⟨o7, c7, rfl⟩ := h7.slc
            have K7 := Lib.hid (K6.out.trans (hb.mono K6.out.size))
            replace HRN := Lib.hid (HRN.out.on hb)
            replace KF := Lib.hid (KF.out.trans (hb.mono KF.out.size))
            clear hb K6 h7
            go_wp2_with fail
            refine (normal_any _ NOW w7 HRN.out HSMN.out).mono ?_
            rintro e w8 ⟨v8, rfl, h8⟩
            have hb := h8.1.2.2
            have H8 := Lib.hid (NormMade.reads h8)
            obtain ⟨o8, c8, rfl⟩ := h8.slc
            have K8 := Lib.hid (K7.out.trans (hb.mono K7.out.size))
            replace H7 := Lib.hid (H7.out.on hb)
            replace KF := Lib.hid (KF.out.trans (hb.mono KF.out.size))
            clear hb K7 h8
            go_wp2_with fail
            refine (rstr_any _ _ (normE t) (normE NOW) w8 H7.out H8.out).mono ?_
            rintro e w9 ⟨rfl, hb⟩
            rw [HNE.out]
            have K9 := Lib.hid (K8.out.trans (hb.mono K8.out.size))
            replace KF := Lib.hid (KF.out.trans (hb.mono KF.out.size))
            clear hb K8 H7 H8
            go_wp2
            clear hne0 hne1
            go_loopg [11, 12] LL.length (fun m ix _ wr => ∃ p : Nat, m + p = LL.length ∧ ix = .int .i64 p ∧ Below w4.heap.size w4 wr ∧ Below W.heap.size W wr)
            case atStart => exact ⟨0, by omega, rfl, K9.out, KF.out⟩
            case round =>
              clear K9 KF
              rename World => w10
              obtain ⟨p, hmp, rfl, hb4, hbW⟩ := hrel
              have HM := Lib.hid hmp
              have K4 := Lib.hid hb4
              have KF := Lib.hid hbW
              have hp : p ≤ LL.length := by omega
              have hp0 : (0 : Int) ≤ (p : Int) := by omega
              clear hmp hb4 hbW
              by_cases hpl : p < LL.length
              · have hpi : (p : Int) < LL.length := by omega
                have HPL := Lib.hid (And.intro hpl trivial)
                obtain ⟨ga, ua, uc, e1, hca, hra⟩ := OutL.cell HA.out.1 hpl
                subst e1
                rw [HA.out.2 p hpl] at hca hra
                obtain ⟨gz, uz, c2, e1, hcz, hrz⟩ := OutL.cell HZ.out.1 hpl
                subst e1
                rw [HZ.out.2 p hpl] at hcz hrz
                have HCA := Lib.hid (fun wq (hq : Below w10.heap.size w10 wq) => hca wq (HAK.out wq (K4.out.trans (hq.mono K4.out.size))))
                have HRA := Lib.hid (fun wq (hq : Below w10.heap.size w10 wq) => hra.keep (HAK.out wq (K4.out.trans (hq.mono K4.out.size))))
                have HCZ := Lib.hid (fun wq (hq : Below w10.heap.size w10 wq) => hcz wq (K4.out.trans (hq.mono K4.out.size)))
                have HRZ := Lib.hid (fun wq (hq : Below w10.heap.size w10 wq) => hrz.keep (K4.out.trans (hq.mono K4.out.size)))
                have hxl := HLR.out p hpl
                generalize LL[p] = xs at *
                clear hpl hca hra hcz hrz
                have hne : ((xs.length : Int) != (xs.length : Int)) = false := by simp
                go_wp2_with fail
                refine region_left [.is (.slice (some ⟨ga, 0, none⟩) LL.length ac), .is (.int .i64 (p : Int)), .is (.pointer (some ⟨ga, p, none⟩)), .is (.slice ua xs.length uc), .is (.int .i64 (xs.length : Int)), .is (.slice (some ⟨gz, 0, none⟩) LL.length bc), .is (.int .i64 (p : Int)), .is (.pointer (some ⟨gz, p, none⟩)), .is (.slice uz xs.length c2), .is (.int .i64 (xs.length : Int)), .is (.bool false)] (by kernel_rfl) rfl (by kernel_rfl) (by kernel_rfl) (.cons ?e0 (.cons ?e1 (.cons ?e2 (.cons ?e3 (.cons ?e4 (.cons ?e5 (.cons ?e6 (.cons ?e7 (.cons ?e8 (.cons ?e9 (.cons ?e10 .nil))))))))))) ?efin
                case e0 =>
                  intro wq hbw st  K hK
                  simp only [Act.put, List.setIfInBounds_toArray, List.set_cons_zero, List.set_cons_succ] at hK ⊢
                  unfold opStep
                  rw [if_pos (by rfl)]
                  go_simp
                  exact hK.out _ _ (Below.refl _ _) rfl _ rfl
                case e1 =>
                  intro wq hbw st  K hK
                  simp only [Act.put, List.setIfInBounds_toArray, List.set_cons_zero, List.set_cons_succ] at hK ⊢
                  unfold opStep
                  rw [if_pos (by rfl)]
                  go_simp
                  exact hK.out _ _ (Below.refl _ _) rfl _ rfl
                case e2 =>
                  intro wq hbw st  K hK
                  simp only [Act.put, List.setIfInBounds_toArray, List.set_cons_zero, List.set_cons_succ] at hK ⊢
                  unfold opStep
                  rw [if_pos (by rfl)]
                  go_simp
                  exact hK.out _ _ (Below.refl _ _) rfl _ rfl
                case e3 =>
                  intro wq hbw st  K hK
                  simp only [Act.put, List.setIfInBounds_toArray, List.set_cons_zero, List.set_cons_succ] at hK ⊢
                  unfold opStep
                  rw [if_pos (by rfl)]
                  have d0 := HCA.out wq hbw
                  go_simp
                  exact hK.out _ _ (Below.refl _ _) rfl _ rfl
                case e4 =>
                  intro wq hbw st  K hK
                  simp only [Act.put, List.setIfInBounds_toArray, List.set_cons_zero, List.set_cons_succ] at hK ⊢
                  unfold opStep
                  rw [if_pos (by rfl)]
                  go_simp
                  exact hK.out _ _ (Below.refl _ _) rfl _ rfl
                case e5 =>
                  intro wq hbw st  K hK
                  simp only [Act.put, List.setIfInBounds_toArray, List.set_cons_zero, List.set_cons_succ] at hK ⊢
                  unfold opStep
                  rw [if_pos (by rfl)]
                  go_simp
                  exact hK.out _ _ (Below.refl _ _) rfl _ rfl
                case e6 =>
                  intro wq hbw st  K hK
                  simp only [Act.put, List.setIfInBounds_toArray, List.set_cons_zero, List.set_cons_succ] at hK ⊢
                  unfold opStep
                  rw [if_pos (by rfl)]
                  go_simp
                  exact hK.out _ _ (Below.refl _ _) rfl _ rfl
                case e7 =>
                  intro wq hbw st  K hK
                  simp only [Act.put, List.setIfInBounds_toArray, List.set_cons_zero, List.set_cons_succ] at hK ⊢
                  unfold opStep
                  rw [if_pos (by rfl)]
                  go_simp
                  exact hK.out _ _ (Below.refl _ _) rfl _ rfl
                case e8 =>
                  intro wq hbw st  K hK
                  simp only [Act.put, List.setIfInBounds_toArray, List.set_cons_zero, List.set_cons_succ] at hK ⊢
                  unfold opStep
                  rw [if_pos (by rfl)]
                  have d0 := HCZ.out wq hbw
                  go_simp
                  exact hK.out _ _ (Below.refl _ _) rfl _ rfl
                case e9 =>
                  intro wq hbw st  K hK
                  simp only [Act.put, List.setIfInBounds_toArray, List.set_cons_zero, List.set_cons_succ] at hK ⊢
                  unfold opStep
                  rw [if_pos (by rfl)]
                  go_simp
                  exact hK.out _ _ (Below.refl _ _) rfl _ rfl
                case e10 =>
                  intro wq hbw st  K hK
                  simp only [Act.put, List.setIfInBounds_toArray, List.set_cons_zero, List.set_cons_succ] at hK ⊢
                  unfold opStep
                  rw [if_pos (by rfl)]
                  go_simp
                  exact hK.out _ _ (Below.refl _ _) rfl _ rfl
                case efin =>
                  intro wq hbw
                  try simp only [FinAll]
                  simp only [Act.put, List.setIfInBounds_toArray, List.set_cons_zero, List.set_cons_succ]
                  have HB6 := Lib.hid hbw
                  have d0 := HCA.out wq hbw
                  clear hbw hne
                  obtain ⟨G1, hG1⟩ : ∃ G, G = gk := ⟨_, rfl⟩
                  subst hG1
                  go_wp2
                  clear d0
                  go_loopg [12] xs.length (fun m kx wr => ∃ q : Nat, m + q = xs.length ∧ kx = .int .i64 q ∧ Below w10.heap.size w10 wr)
                  case atStart => exact ⟨0, by omega, rfl, HB6.out⟩
                  case round =>
                    rename World => w11
                    obtain ⟨q, hmk, rfl, hb6⟩ := hrel
                    have HM2 := Lib.hid hmk
                    have K6 := Lib.hid hb6
                    have hq : q ≤ xs.length := by omega
                    have hq0 : (0 : Int) ≤ (q : Int) := by omega
                    have d0 := HCA.out w11 hb6
                    clear hmk hb6
                    by_cases hkl : q < xs.length
                    · have hki : (q : Int) < xs.length := by omega
                      have HKL := Lib.hid (And.intro hkl trivial)
                      obtain ⟨b1, o1, c1', e1, -, -⟩ := int_at (HRA.out w11 K6.out) hkl
                      injection e1 with e1 _ e3
                      subst e1
                      obtain ⟨b2, o2, c2', e1, -, -⟩ := int_at (HRZ.out w11 K6.out) hkl
                      injection e1 with e1 _ e3'
                      subst e1
                      have HI1 : Hid (∀ wq, Below w11.heap.size w11 wq → wq.cell? ⟨b1, o1 + q, none⟩ = some (vi xs[q])) := Lib.hid fun wq hq => by
                        obtain ⟨b', o', c', e, -, r⟩ := int_at (HRA.out wq (K6.out.trans (hq.mono K6.out.size))) hkl
                        injection e with e _ _
                        injection e with e
                        injection e with e4 e5
                        subst e4 e5
                        exact r
                      have HI2 : Hid (∀ wq, Below w11.heap.size w11 wq → wq.cell? ⟨b2, o2 + q, none⟩ = some (vi xs[q])) := Lib.hid fun wq hq => by
                        obtain ⟨b', o', c', e, -, r⟩ := int_at (HRZ.out wq (K6.out.trans (hq.mono K6.out.size))) hkl
                        injection e with e _ _
                        injection e with e
                        injection e with e4 e5
                        subst e4 e5
                        exact r
                      clear e3 e3'
                      generalize xs[q] = y at *
                      clear hkl
                      have hne : (y != y) = false := by simp
                      go_wp2_with fail
                      refine region_left [.is (.slice (some ⟨ga, 0, none⟩) LL.length ac), .is (.int .i64 (p : Int)), .is (.pointer (some ⟨ga, p, none⟩)), .is (.slice (some ⟨b1, o1, none⟩) xs.length uc), .is (.int .i64 (q : Int)), .is (.pointer (some ⟨b1, o1 + q, none⟩)), .is (.int .i64 y), .is (.slice (some ⟨gz, 0, none⟩) LL.length bc), .is (.int .i64 (p : Int)), .is (.pointer (some ⟨gz, p, none⟩)), .is (.slice (some ⟨b2, o2, none⟩) xs.length c2), .is (.int .i64 (q : Int)), .is (.pointer (some ⟨b2, o2 + q, none⟩)), .is (.int .i64 y), .is (.bool false)] (by kernel_rfl) rfl (by kernel_rfl) (by kernel_rfl) (.cons ?f0 (.cons ?f1 (.cons ?f2 (.cons ?f3 (.cons ?f4 (.cons ?f5 (.cons ?f6 (.cons ?f7 (.cons ?f8 (.cons ?f9 (.cons ?f10 (.cons ?f11 (.cons ?f12 (.cons ?f13 (.cons ?f14 .nil))))))))))))))) ?ffin
                      case f0 =>
                        intro wq hbw st  K hK
                        simp only [Act.put, List.setIfInBounds_toArray, List.set_cons_zero, List.set_cons_succ] at hK ⊢
                        unfold opStep
                        rw [if_pos (by rfl)]
                        go_simp
                        exact hK.out _ _ (Below.refl _ _) rfl _ rfl
                      case f1 =>
                        intro wq hbw st  K hK
                        simp only [Act.put, List.setIfInBounds_toArray, List.set_cons_zero, List.set_cons_succ] at hK ⊢
                        unfold opStep
                        rw [if_pos (by rfl)]
                        go_simp
                        exact hK.out _ _ (Below.refl _ _) rfl _ rfl
                      case f2 =>
                        intro wq hbw st  K hK
                        simp only [Act.put, List.setIfInBounds_toArray, List.set_cons_zero, List.set_cons_succ] at hK ⊢
                        unfold opStep
                        rw [if_pos (by rfl)]
                        go_simp
                        exact hK.out _ _ (Below.refl _ _) rfl _ rfl
                      case f3 =>
                        intro wq hbw st  K hK
                        simp only [Act.put, List.setIfInBounds_toArray, List.set_cons_zero, List.set_cons_succ] at hK ⊢
                        unfold opStep
                        rw [if_pos (by rfl)]
                        have d1 := HCA.out wq (K6.out.trans (hbw.mono K6.out.size))
                        go_simp
                        exact hK.out _ _ (Below.refl _ _) rfl _ rfl
                      case f4 =>
                        intro wq hbw st  K hK
                        simp only [Act.put, List.setIfInBounds_toArray, List.set_cons_zero, List.set_cons_succ] at hK ⊢
                        unfold opStep
                        rw [if_pos (by rfl)]
                        go_simp
                        exact hK.out _ _ (Below.refl _ _) rfl _ rfl
                      case f5 =>
                        intro wq hbw st  K hK
                        simp only [Act.put, List.setIfInBounds_toArray, List.set_cons_zero, List.set_cons_succ] at hK ⊢
                        unfold opStep
                        rw [if_pos (by rfl)]
                        go_simp
                        exact hK.out _ _ (Below.refl _ _) rfl _ rfl
                      case f6 =>
                        intro wq hbw st  K hK
                        simp only [Act.put, List.setIfInBounds_toArray, List.set_cons_zero, List.set_cons_succ] at hK ⊢
                        unfold opStep
                        rw [if_pos (by rfl)]
                        have d1 := HI1.out wq hbw
                        unfold vi at d1
                        go_simp
                        exact hK.out _ _ (Below.refl _ _) rfl _ rfl
                      case f7 =>
                        intro wq hbw st  K hK
                        simp only [Act.put, List.setIfInBounds_toArray, List.set_cons_zero, List.set_cons_succ] at hK ⊢
                        unfold opStep
                        rw [if_pos (by rfl)]
                        go_simp
                        exact hK.out _ _ (Below.refl _ _) rfl _ rfl
                      case f8 =>
                        intro wq hbw st  K hK
                        simp only [Act.put, List.setIfInBounds_toArray, List.set_cons_zero, List.set_cons_succ] at hK ⊢
                        unfold opStep
                        rw [if_pos (by rfl)]
                        go_simp
                        exact hK.out _ _ (Below.refl _ _) rfl _ rfl
                      case f9 =>
                        intro wq hbw st  K hK
                        simp only [Act.put, List.setIfInBounds_toArray, List.set_cons_zero, List.set_cons_succ] at hK ⊢
                        unfold opStep
                        rw [if_pos (by rfl)]
                        go_simp
                        exact hK.out _ _ (Below.refl _ _) rfl _ rfl
                      case f10 =>
                        intro wq hbw st  K hK
                        simp only [Act.put, List.setIfInBounds_toArray, List.set_cons_zero, List.set_cons_succ] at hK ⊢
                        unfold opStep
                        rw [if_pos (by rfl)]
                        have d1 := HCZ.out wq (K6.out.trans (hbw.mono K6.out.size))
                        go_simp
                        exact hK.out _ _ (Below.refl _ _) rfl _ rfl
                      case f11 =>
                        intro wq hbw st  K hK
                        simp only [Act.put, List.setIfInBounds_toArray, List.set_cons_zero, List.set_cons_succ] at hK ⊢
                        unfold opStep
                        rw [if_pos (by rfl)]
                        go_simp
                        exact hK.out _ _ (Below.refl _ _) rfl _ rfl
                      case f12 =>
                        intro wq hbw st  K hK
                        simp only [Act.put, List.setIfInBounds_toArray, List.set_cons_zero, List.set_cons_succ] at hK ⊢
                        unfold opStep
                        rw [if_pos (by rfl)]
                        go_simp
                        exact hK.out _ _ (Below.refl _ _) rfl _ rfl
                      case f13 =>
                        intro wq hbw st  K hK
                        simp only [Act.put, List.setIfInBounds_toArray, List.set_cons_zero, List.set_cons_succ] at hK ⊢
                        unfold opStep
                        rw [if_pos (by rfl)]
                        have d1 := HI2.out wq hbw
                        unfold vi at d1
                        go_simp
                        exact hK.out _ _ (Below.refl _ _) rfl _ rfl
                      case f14 =>
                        intro wq hbw st  K hK
                        simp only [Act.put, List.setIfInBounds_toArray, List.set_cons_zero, List.set_cons_succ] at hK ⊢
                        unfold opStep
                        rw [if_pos (by rfl)]
                        go_simp
                        exact hK.out _ _ (Below.refl _ _) rfl _ rfl
                      case ffin =>
                        intro wq hbw
                        try simp only [FinAll]
                        simp only [Act.put, List.setIfInBounds_toArray, List.set_cons_zero, List.set_cons_succ]
                        have K7 := Lib.hid (K6.out.trans (hbw.mono K6.out.size))
                        clear hbw hne d0
                        go_wp2
                        go_roundg (xs.length - (q + 1))
                        case measure => have := HM2.out; have := HKL.out.1; omega
                        case rel => exact ⟨q + 1, by have := HKL.out.1; omega, by go_num, K7.out⟩
                    · have hki : ¬ (q : Int) < xs.length := by omega
                      have K7 := Lib.hid (K4.out.trans (K6.out.mono K4.out.size))
                      have KF7 := Lib.hid (KF.out.trans (K6.out.mono KF.out.size))
                      go_wp2
                      go_roundg (LL.length - (p + 1))
                      case measure => have := HM.out; have := HPL.out.1; omega
                      case rel => exact ⟨p + 1, by have := HPL.out.1; omega, by go_num, K7.out, KF7.out⟩
              · have hpi : ¬ (p : Int) < LL.length := by omega
                go_wp2
                go_ret
                exact ⟨rfl, KF.out⟩
          · have hii : ¬ (i : Int) < sw.length := by omega
            clear hgo hil
            have HRW := Lib.hid (HR.out.1.on K2.out)
            have HRN := Lib.hid ((ReadsW.toE (by rw [HLN.out]; exact HNX.out.1.reads : ReadsW ws w2 (.slice (some ⟨g, 0, none⟩) t.length c) NOW) K2.out))
            have HPM := Lib.hid (fun e (he : e ∈ NOW) => HST.out.2 e (Prj.mem HP.out he))
            have HSMN : Hid (SmallT NOW) := Lib.hid ⟨by have := HLN.out; omega, HPM.out⟩
            have KF := Lib.hid (KW.out.trans (K2.out.mono KW.out.size))
            have HCT := Lib.hid (cnt_prj HP.out 10000)
            have HLE := Lib.hid (layE_prj HP.out)
            have HNE : Hid (decide (normE t = normE NOW) = true) := Lib.hid (decide_eq_true (prj_norm.2 HP.out))
            have hnow : NOW.length ≤ 7 := by have := HLN.out; omega
            clear HNX HPM K2 HM hi hi0 hn1p hn1z hn1z2 en1 ewn hn1le
            go_wp2_with fail
            refine (layers_any _ t w2 HRW.out (by omega)).mono ?_
            rintro e w3 ⟨va, BA, LA, rfl, hoa, hla, hb⟩
            have HA := Lib.hid (And.intro hoa hla)
            obtain ⟨fa, hfa, -⟩ := hoa
            obtain ⟨aa, ac, rfl⟩ := row_slc hfa
            replace HRW := Lib.hid (HRW.out.on hb)
            replace HRN := Lib.hid (HRN.out.on hb)
            replace KF := Lib.hid (KF.out.trans (hb.mono KF.out.size))
            clear hfa hla hb
            go_wp2_with fail
            refine (layers_any _ NOW w3 HRN.out (by omega)).mono ?_
            rintro e w4 ⟨vb, BB, LB, rfl, hob, hlb, hb⟩
            rw [← HLE.out] at hob hlb
            have HZ := Lib.hid (And.intro hob hlb)
            obtain ⟨fb, hfb, -⟩ := hob
            obtain ⟨ba, bc, rfl⟩ := row_slc hfb
            have HAK := Lib.hid (fun wq (hq : Below w4.heap.size w4 wq) => hb.trans (hq.mono hb.size))
            replace HRW := Lib.hid (HRW.out.on hb)
            replace HRN := Lib.hid (HRN.out.on hb)
            replace KF := Lib.hid (KF.out.trans (hb.mono KF.out.size))
            clear hfb hlb hb
            have hLn : (layE t).length ≤ 7 := by unfold layE; rw [List.length_map, List.length_range]; have := nl_le t t.length; omega
            have hLr : ∀ k (h : k < (layE t).length), (layE t)[k].length ≤ 7 := fun k h => Nat.le_trans (layE_len h) hn
            have HLR := Lib.hid hLr
            have hne0 : (((layE t).length : Int) != ((layE t).length : Int)) = false := by simp
            have hne1 : (cntE t 10000 != cntE t 10000) = false := by simp
            clear hLr
            generalize layE t = LL at *
            go_wp2_with fail
            refine (count_any _ t 10000 w4 HRW.out (by omega) (by omega)).mono ?_
            rintro e w5 ⟨rfl, hb⟩
            have K5 := Lib.hid hb
            replace HRW := Lib.hid (HRW.out.on hb)
            replace HRN := Lib.hid (HRN.out.on hb)
            replace KF := Lib.hid (KF.out.trans (hb.mono KF.out.size))
            clear hb
            go_wp2_with fail
            refine (count_any _ NOW 10000 w5 HRN.out (by omega) (by omega)).mono ?_
            rintro e w6 ⟨rfl, hb⟩
            rw [HCT.out]
            have K6 := Lib.hid (K5.out.trans (hb.mono K5.out.size))
            replace HRW := Lib.hid (HRW.out.on hb)
            replace HRN := Lib.hid (HRN.out.on hb)
            replace KF := Lib.hid (KF.out.trans (hb.mono KF.out.size))
            clear hb K5
            generalize cntE t 10000 = cn at *
            go_wp2_with fail
            refine (normal_any _ t w6 HRW.out HST.out).mono ?_
            rintro e w7 ⟨v7, rfl, h7⟩
            have hb := h7.1.2.2
            have H7 := Lib.hid (NormMade.reads h7)
            obtain ⟨o7, c7, rfl⟩ := h7.slc
            have K7 := Lib.hid (K6.out.trans (hb.mono K6.out.size))
            replace HRN := Lib.hid (HRN.out.on hb)
            replace KF := Lib.hid (KF.out.trans (hb.mono KF.out.size))
            clear hb K6 h7
            go_wp2_with fail
            refine (normal_any _ NOW w7 HRN.out HSMN.out).mono ?_
            rintro e w8 ⟨v8, rfl, h8⟩
            have hb := h8.1.2.2
            have H8 := Lib.hid (NormMade.reads h8)
            obtain ⟨o8, c8, rfl⟩ := h8.slc
            have K8 := Lib.hid (K7.out.trans (hb.mono K7.out.size))
            replace H7 := Lib.hid (H7.out.on hb)
            replace KF := Lib.hid (KF.out.trans (hb.mono KF.out.size))
            clear hb K7 h8
            go_wp2_with fail
            refine (rstr_any _ _ (normE t) (normE NOW) w8 H7.out H8.out).mono ?_
            rintro e w9 ⟨rfl, hb⟩
            rw [HNE.out]
            have K9 := Lib.hid (K8.out.trans (hb.mono K8.out.size))
            replace KF := Lib.hid (KF.out.trans (hb.mono KF.out.size))
            clear hb K8 H7 H8
            go_wp2
            clear hne0 hne1
            go_loopg [11, 12] LL.length (fun m ix _ wr => ∃ p : Nat, m + p = LL.length ∧ ix = .int .i64 p ∧ Below w4.heap.size w4 wr ∧ Below W.heap.size W wr)
            case atStart => exact ⟨0, by omega, rfl, K9.out, KF.out⟩
            case round =>
              clear K9 KF
              rename World => w10
              obtain ⟨p, hmp, rfl, hb4, hbW⟩ := hrel
              have HM := Lib.hid hmp
              have K4 := Lib.hid hb4
              have KF := Lib.hid hbW
              have hp : p ≤ LL.length := by omega
              have hp0 : (0 : Int) ≤ (p : Int) := by omega
              clear hmp hb4 hbW
              by_cases hpl : p < LL.length
              · have hpi : (p : Int) < LL.length := by omega
                have HPL := Lib.hid (And.intro hpl trivial)
                obtain ⟨ga, ua, uc, e1, hca, hra⟩ := OutL.cell HA.out.1 hpl
                subst e1
                rw [HA.out.2 p hpl] at hca hra
                obtain ⟨gz, uz, c2, e1, hcz, hrz⟩ := OutL.cell HZ.out.1 hpl
                subst e1
                rw [HZ.out.2 p hpl] at hcz hrz
                have HCA := Lib.hid (fun wq (hq : Below w10.heap.size w10 wq) => hca wq (HAK.out wq (K4.out.trans (hq.mono K4.out.size))))
                have HRA := Lib.hid (fun wq (hq : Below w10.heap.size w10 wq) => hra.keep (HAK.out wq (K4.out.trans (hq.mono K4.out.size))))
                have HCZ := Lib.hid (fun wq (hq : Below w10.heap.size w10 wq) => hcz wq (K4.out.trans (hq.mono K4.out.size)))
                have HRZ := Lib.hid (fun wq (hq : Below w10.heap.size w10 wq) => hrz.keep (K4.out.trans (hq.mono K4.out.size)))
                have hxl := HLR.out p hpl
                generalize LL[p] = xs at *
                clear hpl hca hra hcz hrz
                have hne : ((xs.length : Int) != (xs.length : Int)) = false := by simp
                go_wp2_with fail
                refine region_left [.is (.slice (some ⟨ga, 0, none⟩) LL.length ac), .is (.int .i64 (p : Int)), .is (.pointer (some ⟨ga, p, none⟩)), .is (.slice ua xs.length uc), .is (.int .i64 (xs.length : Int)), .is (.slice (some ⟨gz, 0, none⟩) LL.length bc), .is (.int .i64 (p : Int)), .is (.pointer (some ⟨gz, p, none⟩)), .is (.slice uz xs.length c2), .is (.int .i64 (xs.length : Int)), .is (.bool false)] (by kernel_rfl) rfl (by kernel_rfl) (by kernel_rfl) (.cons ?e0 (.cons ?e1 (.cons ?e2 (.cons ?e3 (.cons ?e4 (.cons ?e5 (.cons ?e6 (.cons ?e7 (.cons ?e8 (.cons ?e9 (.cons ?e10 .nil))))))))))) ?efin
                case e0 =>
                  intro wq hbw st  K hK
                  simp only [Act.put, List.setIfInBounds_toArray, List.set_cons_zero, List.set_cons_succ] at hK ⊢
                  unfold opStep
                  rw [if_pos (by rfl)]
                  go_simp
                  exact hK.out _ _ (Below.refl _ _) rfl _ rfl
                case e1 =>
                  intro wq hbw st  K hK
                  simp only [Act.put, List.setIfInBounds_toArray, List.set_cons_zero, List.set_cons_succ] at hK ⊢
                  unfold opStep
                  rw [if_pos (by rfl)]
                  go_simp
                  exact hK.out _ _ (Below.refl _ _) rfl _ rfl
                case e2 =>
                  intro wq hbw st  K hK
                  simp only [Act.put, List.setIfInBounds_toArray, List.set_cons_zero, List.set_cons_succ] at hK ⊢
                  unfold opStep
                  rw [if_pos (by rfl)]
                  go_simp
                  exact hK.out _ _ (Below.refl _ _) rfl _ rfl
                case e3 =>
                  intro wq hbw st  K hK
                  simp only [Act.put, List.setIfInBounds_toArray, List.set_cons_zero, List.set_cons_succ] at hK ⊢
                  unfold opStep
                  rw [if_pos (by rfl)]
                  have d0 := HCA.out wq hbw
                  go_simp
                  exact hK.out _ _ (Below.refl _ _) rfl _ rfl
                case e4 =>
                  intro wq hbw st  K hK
                  simp only [Act.put, List.setIfInBounds_toArray, List.set_cons_zero, List.set_cons_succ] at hK ⊢
                  unfold opStep
                  rw [if_pos (by rfl)]
                  go_simp
                  exact hK.out _ _ (Below.refl _ _) rfl _ rfl
                case e5 =>
                  intro wq hbw st  K hK
                  simp only [Act.put, List.setIfInBounds_toArray, List.set_cons_zero, List.set_cons_succ] at hK ⊢
                  unfold opStep
                  rw [if_pos (by rfl)]
                  go_simp
                  exact hK.out _ _ (Below.refl _ _) rfl _ rfl
                case e6 =>
                  intro wq hbw st  K hK
                  simp only [Act.put, List.setIfInBounds_toArray, List.set_cons_zero, List.set_cons_succ] at hK ⊢
                  unfold opStep
                  rw [if_pos (by rfl)]
                  go_simp
                  exact hK.out _ _ (Below.refl _ _) rfl _ rfl
                case e7 =>
                  intro wq hbw st  K hK
                  simp only [Act.put, List.setIfInBounds_toArray, List.set_cons_zero, List.set_cons_succ] at hK ⊢
                  unfold opStep
                  rw [if_pos (by rfl)]
                  go_simp
                  exact hK.out _ _ (Below.refl _ _) rfl _ rfl
                case e8 =>
                  intro wq hbw st  K hK
                  simp only [Act.put, List.setIfInBounds_toArray, List.set_cons_zero, List.set_cons_succ] at hK ⊢
                  unfold opStep
                  rw [if_pos (by rfl)]
                  have d0 := HCZ.out wq hbw
                  go_simp
                  exact hK.out _ _ (Below.refl _ _) rfl _ rfl
                case e9 =>
                  intro wq hbw st  K hK
                  simp only [Act.put, List.setIfInBounds_toArray, List.set_cons_zero, List.set_cons_succ] at hK ⊢
                  unfold opStep
                  rw [if_pos (by rfl)]
                  go_simp
                  exact hK.out _ _ (Below.refl _ _) rfl _ rfl
                case e10 =>
                  intro wq hbw st  K hK
                  simp only [Act.put, List.setIfInBounds_toArray, List.set_cons_zero, List.set_cons_succ] at hK ⊢
                  unfold opStep
                  rw [if_pos (by rfl)]
                  go_simp
                  exact hK.out _ _ (Below.refl _ _) rfl _ rfl
                case efin =>
                  intro wq hbw
                  try simp only [FinAll]
                  simp only [Act.put, List.setIfInBounds_toArray, List.set_cons_zero, List.set_cons_succ]
                  have HB6 := Lib.hid hbw
                  have d0 := HCA.out wq hbw
                  clear hbw hne
                  obtain ⟨G1, hG1⟩ : ∃ G, G = gk := ⟨_, rfl⟩
                  subst hG1
                  go_wp2
                  clear d0
                  go_loopg [12] xs.length (fun m kx wr => ∃ q : Nat, m + q = xs.length ∧ kx = .int .i64 q ∧ Below w10.heap.size w10 wr)
                  case atStart => exact ⟨0, by omega, rfl, HB6.out⟩
                  case round =>
                    rename World => w11
                    obtain ⟨q, hmk, rfl, hb6⟩ := hrel
                    have HM2 := Lib.hid hmk
                    have K6 := Lib.hid hb6
                    have hq : q ≤ xs.length := by omega
                    have hq0 : (0 : Int) ≤ (q : Int) := by omega
                    have d0 := HCA.out w11 hb6
                    clear hmk hb6
                    by_cases hkl : q < xs.length
                    · have hki : (q : Int) < xs.length := by omega
                      have HKL := Lib.hid (And.intro hkl trivial)
                      obtain ⟨b1, o1, c1', e1, -, -⟩ := int_at (HRA.out w11 K6.out) hkl
                      injection e1 with e1 _ e3
                      subst e1
                      obtain ⟨b2, o2, c2', e1, -, -⟩ := int_at (HRZ.out w11 K6.out) hkl
                      injection e1 with e1 _ e3'
                      subst e1
                      have HI1 : Hid (∀ wq, Below w11.heap.size w11 wq → wq.cell? ⟨b1, o1 + q, none⟩ = some (vi xs[q])) := Lib.hid fun wq hq => by
                        obtain ⟨b', o', c', e, -, r⟩ := int_at (HRA.out wq (K6.out.trans (hq.mono K6.out.size))) hkl
                        injection e with e _ _
                        injection e with e
                        injection e with e4 e5
                        subst e4 e5
                        exact r
                      have HI2 : Hid (∀ wq, Below w11.heap.size w11 wq → wq.cell? ⟨b2, o2 + q, none⟩ = some (vi xs[q])) := Lib.hid fun wq hq => by
                        obtain ⟨b', o', c', e, -, r⟩ := int_at (HRZ.out wq (K6.out.trans (hq.mono K6.out.size))) hkl
                        injection e with e _ _
                        injection e with e
                        injection e with e4 e5
                        subst e4 e5
                        exact r
                      clear e3 e3'
                      generalize xs[q] = y at *
                      clear hkl
                      have hne : (y != y) = false := by simp
                      go_wp2_with fail
                      refine region_left [.is (.slice (some ⟨ga, 0, none⟩) LL.length ac), .is (.int .i64 (p : Int)), .is (.pointer (some ⟨ga, p, none⟩)), .is (.slice (some ⟨b1, o1, none⟩) xs.length uc), .is (.int .i64 (q : Int)), .is (.pointer (some ⟨b1, o1 + q, none⟩)), .is (.int .i64 y), .is (.slice (some ⟨gz, 0, none⟩) LL.length bc), .is (.int .i64 (p : Int)), .is (.pointer (some ⟨gz, p, none⟩)), .is (.slice (some ⟨b2, o2, none⟩) xs.length c2), .is (.int .i64 (q : Int)), .is (.pointer (some ⟨b2, o2 + q, none⟩)), .is (.int .i64 y), .is (.bool false)] (by kernel_rfl) rfl (by kernel_rfl) (by kernel_rfl) (.cons ?f0 (.cons ?f1 (.cons ?f2 (.cons ?f3 (.cons ?f4 (.cons ?f5 (.cons ?f6 (.cons ?f7 (.cons ?f8 (.cons ?f9 (.cons ?f10 (.cons ?f11 (.cons ?f12 (.cons ?f13 (.cons ?f14 .nil))))))))))))))) ?ffin
                      case f0 =>
                        intro wq hbw st  K hK
                        simp only [Act.put, List.setIfInBounds_toArray, List.set_cons_zero, List.set_cons_succ] at hK ⊢
                        unfold opStep
                        rw [if_pos (by rfl)]
                        go_simp
                        exact hK.out _ _ (Below.refl _ _) rfl _ rfl
                      case f1 =>
                        intro wq hbw st  K hK
                        simp only [Act.put, List.setIfInBounds_toArray, List.set_cons_zero, List.set_cons_succ] at hK ⊢
                        unfold opStep
                        rw [if_pos (by rfl)]
                        go_simp
                        exact hK.out _ _ (Below.refl _ _) rfl _ rfl
                      case f2 =>
                        intro wq hbw st  K hK
                        simp only [Act.put, List.setIfInBounds_toArray, List.set_cons_zero, List.set_cons_succ] at hK ⊢
                        unfold opStep
                        rw [if_pos (by rfl)]
                        go_simp
                        exact hK.out _ _ (Below.refl _ _) rfl _ rfl
                      case f3 =>
                        intro wq hbw st  K hK
                        simp only [Act.put, List.setIfInBounds_toArray, List.set_cons_zero, List.set_cons_succ] at hK ⊢
                        unfold opStep
                        rw [if_pos (by rfl)]
                        have d1 := HCA.out wq (K6.out.trans (hbw.mono K6.out.size))
                        go_simp
                        exact hK.out _ _ (Below.refl _ _) rfl _ rfl
                      case f4 =>
                        intro wq hbw st  K hK
                        simp only [Act.put, List.setIfInBounds_toArray, List.set_cons_zero, List.set_cons_succ] at hK ⊢
                        unfold opStep
                        rw [if_pos (by rfl)]
                        go_simp
                        exact hK.out _ _ (Below.refl _ _) rfl _ rfl
                      case f5 =>
                        intro wq hbw st  K hK
                        simp only [Act.put, List.setIfInBounds_toArray, List.set_cons_zero, List.set_cons_succ] at hK ⊢
                        unfold opStep
                        rw [if_pos (by rfl)]
                        go_simp
                        exact hK.out _ _ (Below.refl _ _) rfl _ rfl
                      case f6 =>
                        intro wq hbw st  K hK
                        simp only [Act.put, List.setIfInBounds_toArray, List.set_cons_zero, List.set_cons_succ] at hK ⊢
                        unfold opStep
                        rw [if_pos (by rfl)]
                        have d1 := HI1.out wq hbw
                        unfold vi at d1
                        go_simp
                        exact hK.out _ _ (Below.refl _ _) rfl _ rfl
                      case f7 =>
                        intro wq hbw st  K hK
                        simp only [Act.put, List.setIfInBounds_toArray, List.set_cons_zero, List.set_cons_succ] at hK ⊢
                        unfold opStep
                        rw [if_pos (by rfl)]
                        go_simp
                        exact hK.out _ _ (Below.refl _ _) rfl _ rfl
                      case f8 =>
                        intro wq hbw st  K hK
                        simp only [Act.put, List.setIfInBounds_toArray, List.set_cons_zero, List.set_cons_succ] at hK ⊢
                        unfold opStep
                        rw [if_pos (by rfl)]
                        go_simp
                        exact hK.out _ _ (Below.refl _ _) rfl _ rfl
                      case f9 =>
                        intro wq hbw st  K hK
                        simp only [Act.put, List.setIfInBounds_toArray, List.set_cons_zero, List.set_cons_succ] at hK ⊢
                        unfold opStep
                        rw [if_pos (by rfl)]
                        go_simp
                        exact hK.out _ _ (Below.refl _ _) rfl _ rfl
                      case f10 =>
                        intro wq hbw st  K hK
                        simp only [Act.put, List.setIfInBounds_toArray, List.set_cons_zero, List.set_cons_succ] at hK ⊢
                        unfold opStep
                        rw [if_pos (by rfl)]
                        have d1 := HCZ.out wq (K6.out.trans (hbw.mono K6.out.size))
                        go_simp
                        exact hK.out _ _ (Below.refl _ _) rfl _ rfl
                      case f11 =>
                        intro wq hbw st  K hK
                        simp only [Act.put, List.setIfInBounds_toArray, List.set_cons_zero, List.set_cons_succ] at hK ⊢
                        unfold opStep
                        rw [if_pos (by rfl)]
                        go_simp
                        exact hK.out _ _ (Below.refl _ _) rfl _ rfl
                      case f12 =>
                        intro wq hbw st  K hK
                        simp only [Act.put, List.setIfInBounds_toArray, List.set_cons_zero, List.set_cons_succ] at hK ⊢
                        unfold opStep
                        rw [if_pos (by rfl)]
                        go_simp
                        exact hK.out _ _ (Below.refl _ _) rfl _ rfl
                      case f13 =>
                        intro wq hbw st  K hK
                        simp only [Act.put, List.setIfInBounds_toArray, List.set_cons_zero, List.set_cons_succ] at hK ⊢
                        unfold opStep
                        rw [if_pos (by rfl)]
                        have d1 := HI2.out wq hbw
                        unfold vi at d1
                        go_simp
                        exact hK.out _ _ (Below.refl _ _) rfl _ rfl
                      case f14 =>
                        intro wq hbw st  K hK
                        simp only [Act.put, List.setIfInBounds_toArray, List.set_cons_zero, List.set_cons_succ] at hK ⊢
                        unfold opStep
                        rw [if_pos (by rfl)]
                        go_simp
                        exact hK.out _ _ (Below.refl _ _) rfl _ rfl
                      case ffin =>
                        intro wq hbw
                        try simp only [FinAll]
                        simp only [Act.put, List.setIfInBounds_toArray, List.set_cons_zero, List.set_cons_succ]
                        have K7 := Lib.hid (K6.out.trans (hbw.mono K6.out.size))
                        clear hbw hne d0
                        go_wp2
                        go_roundg (xs.length - (q + 1))
                        case measure => have := HM2.out; have := HKL.out.1; omega
                        case rel => exact ⟨q + 1, by have := HKL.out.1; omega, by go_num, K7.out⟩
                    · have hki : ¬ (q : Int) < xs.length := by omega
                      have K7 := Lib.hid (K4.out.trans (K6.out.mono K4.out.size))
                      have KF7 := Lib.hid (KF.out.trans (K6.out.mono KF.out.size))
                      go_wp2
                      go_roundg (LL.length - (p + 1))
                      case measure => have := HM.out; have := HPL.out.1; omega
                      case rel => exact ⟨p + 1, by have := HPL.out.1; omega, by go_num, K7.out, KF7.out⟩
              · have hpi : ¬ (p : Int) < LL.length := by omega
                go_wp2
                go_ret
                exact ⟨rfl, KF.out⟩

set_option maxRecDepth 100000 in
theorem lifted (os : Os) (started : os.Started) (H : Type) (enc : TypeId × Value → H) :
    ReturnsInHanded {} Try.checked os 5 .any (Rows.scheduleSwapsSpec.pre6 enc Try.prog Try.f5 Rows.scheduleSwapsRow.domain false) (Rows.scheduleSwapsSpec.post enc Try.prog Try.f5 false true false false) := by
  refine returnsInHanded_of_change (C := Try.checked) own started (by kernel_rfl) Try.func5
    (ChangeSpec.witness6 (enc := enc) (C := Try.checked) false ⟨#[], #[.slice none 0 0, .slice none 0 0], []⟩ 8 (by kernel_rfl) (by kernel_rfl) (by kernel_rfl) (by kernel_rfl)) ?_
  intro W base args ds gs before hval0 hW hcnd _
  have hval : ∀ (j : Nat) t v, Try.f5.params[j]? = some t → args[j]? = some v → Value.okWide Try.prog W .any base t v := hval0
  have hW' := hW
  obtain ⟨p, q, hA0, hV, rfl, hfz, hnd⟩ := hW
  have hA : DataW.TrodAll enc Try.prog W 0 (fun _ => true) true Try.f5.params.toList args.toList ds p := hA0
  rw [Try.params5] at hA hval
  obtain ⟨v0, vs0, d0, ds0, p0, q0, hargs, rfl, rfl, t0, r0⟩ := trodAll_cons hA
  obtain ⟨v1, vs1, d1, ds1, p1, q1, rfl, rfl, rfl, t1, r1⟩ := trodAll_cons r0
  obtain ⟨rfl, rfl, rfl⟩ := trodAll_nil r1
  obtain rfl : args = #[v0, v1] := by cases args; simp_all
  obtain ⟨rfl, rfl⟩ := trodVars_none hV
  obtain ⟨x0, h0⟩ := open_tr (hval 0 22 v0 rfl rfl) t0
  obtain ⟨x1, h1⟩ := open_u8 (hval 1 33 v1 rfl rfl) t1
  refine (walk v0 v1 x0 x1 W h0 h1).mono fun e W' ⟨he, hb⟩ => ?_
  subst he
  exact ⟨_, rfl, law_post laidOut rfl (fun _ _ => rfl) (by kernel_rfl) Try.underlying4 (by rw [Try.params5]; exact fun t ht => by simp at ht; rcases ht with  rfl | rfl ; all_goals exact ⟨by kernel_rfl, of_decide_eq_true (by kernel_rfl)⟩) hW' hb⟩

theorem over : Rows.scheduleSwapsRow.holds Try.pinned (OpenSpec.ofChange Rows.scheduleSwapsSpec) :=
  OpenClaim.holds_of_wide 5 Try.f5 rfl rfl rfl rfl rfl rfl rfl ⟨rfl, rfl, rfl, rfl, rfl⟩ rfl rfl rfl rfl rfl (by kernel_rfl) Try.func5 (by kernel_rfl)
    (of_decide_eq_true (by kernel_rfl)) (by unfold Func.isWrapper; first | (rw [if_pos (by decide +kernel)]; kernel_rfl) | (rw [if_neg (by decide +kernel)]; exact ⟨rfl, rfl⟩))
    (fun os started H enc _ => lifted os started H enc)

theorem proved : Rows.ScheduleSwapsSaid := over
end Go.Proofs.Ytfdicndmebhmdaa.scheduleSwaps
