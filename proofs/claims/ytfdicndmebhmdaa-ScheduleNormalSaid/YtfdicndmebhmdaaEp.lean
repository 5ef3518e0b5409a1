/-
  Chapter 29: Prefix.
-/
import Derived.Test.YtfdicndmebhmdaaEo
namespace Go.Proofs.Ytfdicndmebhmdaa
open Go.RowKit
theorem own_one {W1 : World} {cells : List Value} {L : List Ev} (hl : cells.length = L.length * 2) (hc : ∀ k (h : k < L.length), ∃ cs : List Value, cs.length = 2 ∧ (∀ i, i < 2 → cells[k * 2 + i]? = cs[i]?) ∧ EvE W1 cs L[k]) : ∀ u ∈ cells, u.oneCell' = true := by
  intro u hu
  obtain ⟨j, hj, rfl⟩ := List.mem_iff_getElem.1 hu
  obtain ⟨cs, h1, h2, vu, rfl, h3⟩ := hc (j / 2) (by omega)
  have h4 := h2 (j % 2) (by omega)
  rw [show j / 2 * 2 + j % 2 = j by omega, List.getElem?_eq_getElem hj] at h4
  obtain ⟨a1, n1, c1, rfl⟩ := Slc.of_reads h3
  rcases Nat.mod_two_eq_zero_or_one j with e | e
  · rw [e] at h4
    injection h4 with h4
    rw [h4]; rfl
  · rw [e] at h4
    injection h4 with h4
    rw [h4]; rfl
theorem OwnE.slot {B : Nat} {E : World → List Value → Ev → Prop} {w0 w : World} {v : Value} {L : List Ev} (h : OwnE B E w0 w v L) (h0 : 0 < L.length) : ∃ g cap, v = .slice (some ⟨g, 0, none⟩) L.length cap ∧ B ≤ g := by
  obtain ⟨_, cells, h2, _⟩ := h
  rcases h2.2 with ⟨_, e⟩ | ⟨g, cap, cur, rfl, hb, _⟩
  · omega
  · exact ⟨g, cap, rfl, hb⟩
theorem eraseIdx_get {L : List Ev} {k m : Nat} (hk : k < L.length) (hm : m < (L.eraseIdx k).length) : (L.eraseIdx k)[m] = if h : m < k then L[m] else L[m + 1]'(by rw [List.length_eraseIdx_of_lt hk] at hm; omega) := by
  rw [List.getElem_eraseIdx]
theorem delA_get {cells : List Value} {k m i n : Nat} (hl : cells.length = n * 2) (hk : k < n) (hi : i < 2) : (delA cells k)[m * 2 + i]? = if m < k then cells[m * 2 + i]? else cells[(m + 1) * 2 + i]? := by
  unfold delA
  have ht : (cells.take (k * 2)).length = k * 2 := by rw [List.length_take]; omega
  by_cases h : m < k
  · rw [if_pos h, List.getElem?_append_left (by omega), List.getElem?_take, if_pos (by omega)]
  · rw [if_neg h, List.getElem?_append_right (by omega), ht, List.getElem?_drop]
    congr 1
    omega
theorem OwnE.deleted {B g cap k : Nat} {W1 w0 w w' : World} {L : List Ev} {cells : List Value} (hb : w0.heap.size ≤ B ∧ B ≤ w.heap.size ∧ Below w0.heap.size w0 w) (hl : cells.length = L.length * 2) (hc : ∀ k (h : k < L.length), ∃ cs : List Value, cs.length = 2 ∧ (∀ i, i < 2 → cells[k * 2 + i]? = cs[i]?) ∧ EvE W1 cs L[k]) (hg : B ≤ g) (hk : k < L.length)
    (hr : w'.ownsRow B 29 2 (.slice (some ⟨g, 0, none⟩) (L.length - 1) cap) (L.length - 1) (delA cells k)) (hkp : Kept (fun b => b = g) w w') : OwnE B (EvW W1) w0 w' (.slice (some ⟨g, 0, none⟩) (L.length - 1) cap) (L.eraseIdx k) := by
  have hle : (L.eraseIdx k).length = L.length - 1 := List.length_eraseIdx_of_lt hk
  refine ⟨⟨hb.1, Nat.le_trans hb.2.1 hkp.size, hb.2.2.trans (hkp.below hb.2.2.size fun b hb' => by have := hb.1; omega)⟩, delA cells k, by rw [hle]; exact hr, fun m hm => ?_⟩
  rw [hle] at hm
  rw [eraseIdx_get hk]
  by_cases h : m < k
  · obtain ⟨cs, h1, h2, h3⟩ := hc m (by omega)
    refine ⟨cs, h1, fun i hi => by rw [delA_get hl hk hi, if_pos h]; exact h2 i hi, ?_⟩
    rw [dif_pos h]; exact h3
  · obtain ⟨cs, h1, h2, h3⟩ := hc (m + 1) (by omega)
    refine ⟨cs, h1, fun i hi => by rw [delA_get hl hk hi, if_neg h]; exact h2 i hi, ?_⟩
    rw [dif_neg h]; exact h3
theorem prfx_drop {a L : List Ev} {p : Nat} (hp : p < a.length) : prfx (a.drop p) L = (frB L a[p] && prfx (a.drop (p + 1)) (L.erase a[p])) := by
  rw [List.drop_eq_getElem_cons hp]; rfl
theorem EvW.ev {W wq : World} (h : Below W.heap.size W wq) : ∀ cs o, EvW W wq cs o → EvE wq cs o := fun _ _ he => keepsEv _ _ _ _ h he
set_option maxRecDepth 100000 in
set_option maxHeartbeats 8000000 in
theorem prefix_any (va vb : Value) (a b : List Ev) (W : World) (ha : ReadsE W va a) (hb : ReadsE W vb b) (_hla : a.length ≤ 1000) (hlb : b.length ≤ 1000) : Calls Try.prog 29 #[va, vb] W (BoolMade W (prfx a b)) := by
  have HA := Lib.hid ha
  have HCL := Lib.hid (eclone_any vb b W hb hlb)
  obtain ⟨ya, yn, yk, rfl⟩ := Slc.of_readsK hb
  obtain ⟨ao, cap, rfl, hl, hm, -, -⟩ := ha
  unfold maxLen at hm
  clear hb
  obtain ⟨res, hres⟩ : ∃ res, res = prfx a b := ⟨_, rfl⟩
  have HRES := Lib.hid hres
  rw [← hres]
  clear hres
  go_enter Try.func29, Try.ntmps29
  go_wp2_with fail
  refine HCL.out.mono ?_
  rintro e w1 ⟨v1, rfl, h1⟩
  have H1 := Lib.hid h1
  obtain ⟨ra, rc, rfl⟩ := h1.slc
  clear h1 HCL
  go_wp2
  go_loopg [5, 7, 8, 13] a.length (fun m r _ _ idx wr => ∃ (p : Nat) (L : List Ev), m + p = a.length ∧ idx = .int .i64 p ∧ OwnE W.heap.size (EvW W) W wr r L ∧ prfx (a.drop p) L = res ∧ L.length ≤ 1000)
  case atStart => exact ⟨0, b, by omega, rfl, H1.out, by rw [HRES.out]; rfl, hlb⟩
  case round =>
    clear H1
    obtain ⟨p, L, hmp, rfl, hown, hpx, hll⟩ := hrel
    have HM := Lib.hid hmp
    have HOW := Lib.hid hown
    have HPX := Lib.hid hpx
    have hp : p ≤ a.length := by omega
    obtain ⟨oa, oc, rfl⟩ := hown.slc
    clear hmp hown hpx
    by_cases hlt : p < a.length
    · have hpi : (p : Int) < a.length := by omega
      have hp0 : (0 : Int) ≤ (p : Int) := by omega
      have HP := Lib.hid (And.intro hlt trivial)
      obtain ⟨bb, off, c1, s1, k1, hv, hcell, er⟩ := HA.out.at2 hlt
      injection hv with e1 e2 e3
      subst e1
      have d0 := (hcell wr HOW.out.1.2.2).1
      have d1 := (hcell wr HOW.out.1.2.2).2
      have HER := Lib.hid er
      have HSTEP := Lib.hid (HPX.out.symm.trans (prfx_drop (L := L) hlt))
      clear hcell er e2 e3
      generalize a[p] = e at *
      clear hlt
      have HBX : Hid (∀ w2, Below (wr.alloc (.cells #[.int .i64 e.1, .slice s1 e.2.length k1] 29)).heap.size (wr.alloc (.cells #[.int .i64 e.1, .slice s1 e.2.length k1] 29)) w2 → Blk w2 wr.heap.size 29 #[.int .i64 e.1, .slice s1 e.2.length k1] ∧ OwnE W.heap.size (EvW W) W w2 (.slice oa L.length oc) L) := Lib.hid fun w2 h2 =>
        ⟨(Blk.new wr 29 #[.int .i64 e.1, .slice s1 e.2.length k1]).on h2, HOW.out.later (stableW _ _) (((Below.refl wr.heap.size wr).alloc (Nat.le_refl _) _).trans (h2.mono (by simp)))⟩
      have HB0 := Lib.hid (HBX.out _ (Below.refl _ _))
      have HIX := Lib.hid (indexFuncE_any (.slice oa L.length oc) L wr.heap.size e _ (HB0.out.2.reads (EvW.ev HB0.out.2.1.2.2)) ⟨_, HB0.out.1, HER.out.keep HB0.out.2.1.2.2⟩)
      go_wp2_with fail
      refine HIX.out.mono ?_
      rintro r w2 ⟨i, rfl, hf, hb2⟩
      have HB2 := Lib.hid (HBX.out w2 hb2)
      have KW := Lib.hid HB2.out.2.1.2.2
      clear hb2 HIX HB0 HBX d0 d1 HOW
      rcases hf with ⟨rfl, hnone⟩ | ⟨k, hk, rfl, hbef, hdep⟩
      · have HF : Hid (res = false) := Lib.hid (by rw [HSTEP.out, first_none hnone]; rfl)
        clear hnone
        go_wp2
        refine region_left [.is (.int .i64 (-1)), .is (.bool true), .is (.bool true), .is undef, .is undef, .is undef, .is undef, .is undef, .is undef, .is undef, .is (.bool true)] (by kernel_rfl) rfl (by kernel_rfl) (by kernel_rfl) (.cons ?a0 (.cons ?a1 (.cons ?a2 (.cons ?a3 (.cons ?a4 (.cons ?a5 (.cons ?a6 (.cons ?a7 (.cons ?a8 (.cons ?a9 (.cons ?a10 .nil))))))))))) ?afin
        case a0 =>
          intro wq hbw st  K hK
          simp only [Act.put, List.setIfInBounds_toArray, List.set_cons_zero, List.set_cons_succ] at hK ⊢
          unfold opStep
          rw [if_pos (by rfl)]
          go_simp
          exact hK.out _ _ (Below.refl _ _) rfl _ rfl
        case a1 =>
          intro wq hbw st  K hK
          simp only [Act.put, List.setIfInBounds_toArray, List.set_cons_zero, List.set_cons_succ] at hK ⊢
          unfold opStep
          rw [if_pos (by rfl)]
          go_simp
          exact hK.out _ _ (Below.refl _ _) rfl _ rfl
        case a2 =>
          intro wq hbw st  K hK
          simp only [Act.put, List.setIfInBounds_toArray, List.set_cons_zero, List.set_cons_succ] at hK ⊢
          unfold opStep
          rw [if_pos (by rfl)]
          go_simp
          exact hK.out _ _ (Below.refl _ _) rfl _ rfl
        case a3 =>
          intro wq hbw st  K hK
          simp only [Act.put, List.setIfInBounds_toArray, List.set_cons_zero, List.set_cons_succ] at hK ⊢
          unfold opStep
          rw [if_neg (by change ¬ (false = true); exact Bool.false_ne_true)]
          exact hK.out _ _ (Below.refl _ _) rfl _ rfl
        case a4 =>
          intro wq hbw st  K hK
          simp only [Act.put, List.setIfInBounds_toArray, List.set_cons_zero, List.set_cons_succ] at hK ⊢
          unfold opStep
          rw [if_neg (by change ¬ (false = true); exact Bool.false_ne_true)]
          exact hK.out _ _ (Below.refl _ _) rfl _ rfl
        case a5 =>
          intro wq hbw st  K hK
          simp only [Act.put, List.setIfInBounds_toArray, List.set_cons_zero, List.set_cons_succ] at hK ⊢
          unfold opStep
          rw [if_neg (by change ¬ (false = true); exact Bool.false_ne_true)]
          exact hK.out _ _ (Below.refl _ _) rfl _ rfl
        case a6 =>
          intro wq hbw st  K hK
          simp only [Act.put, List.setIfInBounds_toArray, List.set_cons_zero, List.set_cons_succ] at hK ⊢
          unfold opStep
          rw [if_neg (by change ¬ (false = true); exact Bool.false_ne_true)]
          exact hK.out _ _ (Below.refl _ _) rfl _ rfl
        case a7 =>
          intro wq hbw st  K hK
          simp only [Act.put, List.setIfInBounds_toArray, List.set_cons_zero, List.set_cons_succ] at hK ⊢
          unfold opStep
          rw [if_neg (by change ¬ (false = true); exact Bool.false_ne_true)]
          exact hK.out _ _ (Below.refl _ _) rfl _ rfl
        case a8 =>
          intro wq hbw st  K hK
          simp only [Act.put, List.setIfInBounds_toArray, List.set_cons_zero, List.set_cons_succ] at hK ⊢
          unfold opStep
          rw [if_neg (by change ¬ (false = true); exact Bool.false_ne_true)]
          exact hK.out _ _ (Below.refl _ _) rfl _ rfl
        case a9 =>
          intro wq hbw st  K hK
          simp only [Act.put, List.setIfInBounds_toArray, List.set_cons_zero, List.set_cons_succ] at hK ⊢
          unfold opStep
          rw [if_neg (by change ¬ (false = true); exact Bool.false_ne_true)]
          exact hK.out _ _ (Below.refl _ _) rfl _ rfl
        case a10 =>
          intro wq hbw st  K hK
          simp only [Act.put, List.setIfInBounds_toArray, List.set_cons_zero, List.set_cons_succ] at hK ⊢
          unfold opStep
          rw [if_pos (by rfl)]
          go_simp
          exact hK.out _ _ (Below.refl _ _) rfl _ rfl
        case afin =>
          intro wq hbw
          try simp only [FinAll]
          simp only [Act.put, List.setIfInBounds_toArray, List.set_cons_zero, List.set_cons_succ]
          have KW2 := Lib.hid (KW.out.trans (hbw.mono KW.out.size))
          clear hbw
          go_wp2
          go_ret
          exact ⟨ret_bool HF.out.symm, KW2.out⟩
      · obtain ⟨g, rc2, hg, hgB⟩ := HB2.out.2.slot (by omega)
        injection hg with e1 _ e3
        subst e1 e3
        obtain ⟨b', off', c2, s2, k2, hv, hcell, lr⟩ := (HB2.out.2.reads (EvW.ev KW.out)).at2 hk
        injection hv with e1 e2 e3
        injection e1 with e1
        injection e1 with e1 e4
        subst e1 e4
        have HX := Lib.hid (And.intro hcell lr)
        have HE : Hid ((∀ wq, Below w2.heap.size w2 wq → wq.cell? ⟨wr.heap.size, 0, none⟩ = some (.int .i64 e.1) ∧ wq.cell? ⟨wr.heap.size, 0 + 1, none⟩ = some (.slice s1 e.2.length k1)) ∧ Reads vi w2 (.slice s1 e.2.length k1) e.2) := Lib.hid ⟨fun wq hq => ⟨(HB2.out.1.on hq).cell 0, (HB2.out.1.on hq).cell 1⟩, HER.out.keep KW.out⟩
        have hki : (k : Int) < L.length := by omega
        have hk0 : (0 : Int) ≤ (k : Int) := by omega
        have HFS := Lib.hid (first_some hk hbef hdep)
        have HFE := Lib.hid (first_erase hk hbef)
        have HK := Lib.hid (And.intro hk trivial)
        clear hcell lr e2 e3 hbef hdep
        generalize L[k] = x at *
        clear hk
        by_cases hd : x = e
        · have HF : Hid (res = prfx (a.drop (p + 1)) (L.eraseIdx k)) := Lib.hid (by rw [HSTEP.out, HFS.out, decide_eq_true hd, HFE.out hd]; rfl)
          have HD := Lib.hid (decide_eq_true hd)
          clear hd
          go_wp2
          refine region_left [.is (.int .i64 (k : Int)), .is (.bool false), .is (.bool false), .is (.slice (some ⟨g, 0, none⟩) L.length oc), .is (.int .i64 (k : Int)), .is (.pointer (some ⟨g, k * 2, none⟩)), .is (.agg #[.int .i64 x.1, .slice s2 x.2.length k2]), .is (.agg #[.int .i64 e.1, .slice s1 e.2.length k1]), .is (.bool true), .is (.bool false), .is (.bool false)] (by kernel_rfl) rfl (by kernel_rfl) (by kernel_rfl) (.cons ?b0 (.cons ?b1 (.cons ?b2 (.cons ?b3 (.cons ?b4 (.cons ?b5 (.cons ?b6 (.cons ?b7 (.cons ?b8 (.cons ?b9 (.cons ?b10 .nil))))))))))) ?bfin
          case b0 =>
            intro wq hbw st  K hK
            simp only [Act.put, List.setIfInBounds_toArray, List.set_cons_zero, List.set_cons_succ] at hK ⊢
            unfold opStep
            rw [if_pos (by rfl)]
            go_simp
            exact hK.out _ _ (Below.refl _ _) rfl _ rfl
          case b1 =>
            intro wq hbw st  K hK
            simp only [Act.put, List.setIfInBounds_toArray, List.set_cons_zero, List.set_cons_succ] at hK ⊢
            unfold opStep
            rw [if_pos (by rfl)]
            go_simp
            exact hK.out _ _ (Below.refl _ _) rfl _ rfl
          case b2 =>
            intro wq hbw st  K hK
            simp only [Act.put, List.setIfInBounds_toArray, List.set_cons_zero, List.set_cons_succ] at hK ⊢
            unfold opStep
            rw [if_pos (by rfl)]
            go_simp
            exact hK.out _ _ (Below.refl _ _) rfl _ rfl
          case b3 =>
            intro wq hbw st  K hK
            simp only [Act.put, List.setIfInBounds_toArray, List.set_cons_zero, List.set_cons_succ] at hK ⊢
            unfold opStep
            rw [if_pos (by rfl)]
            go_simp
            exact hK.out _ _ (Below.refl _ _) rfl _ rfl
          case b4 =>
            intro wq hbw st  K hK
            simp only [Act.put, List.setIfInBounds_toArray, List.set_cons_zero, List.set_cons_succ] at hK ⊢
            unfold opStep
            rw [if_pos (by rfl)]
            go_simp
            exact hK.out _ _ (Below.refl _ _) rfl _ rfl
          case b5 =>
            intro wq hbw st  K hK
            simp only [Act.put, List.setIfInBounds_toArray, List.set_cons_zero, List.set_cons_succ] at hK ⊢
            unfold opStep
            rw [if_pos (by rfl)]
            go_simp
            exact hK.out _ _ (Below.refl _ _) rfl _ rfl
          case b6 =>
            intro wq hbw st  K hK
            simp only [Act.put, List.setIfInBounds_toArray, List.set_cons_zero, List.set_cons_succ] at hK ⊢
            unfold opStep
            rw [if_pos (by rfl)]
            have dd := Lib.hid (HX.out.1 _ hbw)
            have d0 := dd.out.1
            have d1 := dd.out.2
            simp only [Nat.zero_add] at d0 d1
            go_simp
            exact hK.out _ _ (Below.refl _ _) rfl _ rfl
          case b7 =>
            intro wq hbw st  K hK
            simp only [Act.put, List.setIfInBounds_toArray, List.set_cons_zero, List.set_cons_succ] at hK ⊢
            unfold opStep
            rw [if_pos (by rfl)]
            have dd := Lib.hid (HE.out.1 _ hbw)
            have d0 := dd.out.1
            have d1 := dd.out.2
            go_simp
            exact hK.out _ _ (Below.refl _ _) rfl _ rfl
          case b8 =>
            intro wq hbw st  K hK
            simp only [Act.put, List.setIfInBounds_toArray, List.set_cons_zero, List.set_cons_succ] at hK ⊢
            unfold opStep
            rw [if_pos (by rfl)]
            go_simp
            have hpc := same_any _ _ x e wq ⟨_, rfl, HX.out.2.keep hbw⟩ ⟨_, rfl, HE.out.2.keep hbw⟩
            rw [HD.out] at hpc
            refine hpc.mono ?_
            rintro e wz ⟨rfl, hbz⟩
            go_simp
            exact hK.out _ _ hbz rfl _ rfl
          case b9 =>
            intro wq hbw st  K hK
            simp only [Act.put, List.setIfInBounds_toArray, List.set_cons_zero, List.set_cons_succ] at hK ⊢
            unfold opStep
            rw [if_pos (by rfl)]
            go_simp
            exact hK.out _ _ (Below.refl _ _) rfl _ rfl
          case b10 =>
            intro wq hbw st  K hK
            simp only [Act.put, List.setIfInBounds_toArray, List.set_cons_zero, List.set_cons_succ] at hK ⊢
            unfold opStep
            rw [if_pos (by rfl)]
            go_simp
            exact hK.out _ _ (Below.refl _ _) rfl _ rfl
          case bfin =>
            intro wq hbw
            try simp only [FinAll]
            simp only [Act.put, List.setIfInBounds_toArray, List.set_cons_zero, List.set_cons_succ]
            have KW2 := Lib.hid (KW.out.trans (hbw.mono KW.out.size))
            have HOW2 := Lib.hid (HB2.out.2.later (stableW _ _) hbw)
            clear hbw HX HE HB2 KW
            obtain ⟨cells, hrow, hcs⟩ := HOW2.out.2
            have hde := delete_any W.heap.size g L.length oc k cells wq hrow HK.out.1 hll (own_one hrow.1 hcs)
            rw [show ((k + 1 : Nat) : Int) = (k : Int) + 1 by omega] at hde
            have HDE := Lib.hid hde
            clear hde
            have HRW := Lib.hid (And.intro hrow hcs)
            clear hrow hcs
            have hll2 : (L.eraseIdx k).length ≤ 1000 := by rw [List.length_eraseIdx_of_lt HK.out.1]; omega
            go_wp2_with fail
            refine HDE.out.mono ?_
            rintro r w5 ⟨rfl, hr5, hk5⟩
            have HN := Lib.hid (OwnE.deleted HOW2.out.1 HRW.out.1.1 HRW.out.2 hgB HK.out.1 hr5 hk5)
            clear hr5 hk5 HDE
            go_wp2
            go_roundg (a.length - (p + 1))
            case measure => have := HM.out; omega
            case rel => exact ⟨p + 1, _, by have := HM.out; have := HP.out.1; omega, by go_num, HN.out, HF.out.symm, hll2⟩
        · have HF : Hid (res = false) := Lib.hid (by rw [HSTEP.out, HFS.out, decide_eq_false hd]; rfl)
          have HD := Lib.hid (decide_eq_false hd)
          clear hd
          go_wp2
          refine region_left [.is (.int .i64 (k : Int)), .is (.bool false), .is (.bool false), .is (.slice (some ⟨g, 0, none⟩) L.length oc), .is (.int .i64 (k : Int)), .is (.pointer (some ⟨g, k * 2, none⟩)), .is (.agg #[.int .i64 x.1, .slice s2 x.2.length k2]), .is (.agg #[.int .i64 e.1, .slice s1 e.2.length k1]), .is (.bool false), .is (.bool true), .is (.bool true)] (by kernel_rfl) rfl (by kernel_rfl) (by kernel_rfl) (.cons ?c0 (.cons ?c1 (.cons ?c2 (.cons ?c3 (.cons ?c4 (.cons ?c5 (.cons ?c6 (.cons ?c7 (.cons ?c8 (.cons ?c9 (.cons ?c10 .nil))))))))))) ?cfin
          case c0 =>
            intro wq hbw st  K hK
            simp only [Act.put, List.setIfInBounds_toArray, List.set_cons_zero, List.set_cons_succ] at hK ⊢
            unfold opStep
            rw [if_pos (by rfl)]
            go_simp
            exact hK.out _ _ (Below.refl _ _) rfl _ rfl
          case c1 =>
            intro wq hbw st  K hK
            simp only [Act.put, List.setIfInBounds_toArray, List.set_cons_zero, List.set_cons_succ] at hK ⊢
            unfold opStep
            rw [if_pos (by rfl)]
            go_simp
            exact hK.out _ _ (Below.refl _ _) rfl _ rfl
          case c2 =>
            intro wq hbw st  K hK
            simp only [Act.put, List.setIfInBounds_toArray, List.set_cons_zero, List.set_cons_succ] at hK ⊢
            unfold opStep
            rw [if_pos (by rfl)]
            go_simp
            exact hK.out _ _ (Below.refl _ _) rfl _ rfl
          case c3 =>
            intro wq hbw st  K hK
            simp only [Act.put, List.setIfInBounds_toArray, List.set_cons_zero, List.set_cons_succ] at hK ⊢
            unfold opStep
            rw [if_pos (by rfl)]
            go_simp
            exact hK.out _ _ (Below.refl _ _) rfl _ rfl
          case c4 =>
            intro wq hbw st  K hK
            simp only [Act.put, List.setIfInBounds_toArray, List.set_cons_zero, List.set_cons_succ] at hK ⊢
            unfold opStep
            rw [if_pos (by rfl)]
            go_simp
            exact hK.out _ _ (Below.refl _ _) rfl _ rfl
          case c5 =>
            intro wq hbw st  K hK
            simp only [Act.put, List.setIfInBounds_toArray, List.set_cons_zero, List.set_cons_succ] at hK ⊢
            unfold opStep
            rw [if_pos (by rfl)]
            go_simp
            exact hK.out _ _ (Below.refl _ _) rfl _ rfl
          case c6 =>
            intro wq hbw st  K hK
            simp only [Act.put, List.setIfInBounds_toArray, List.set_cons_zero, List.set_cons_succ] at hK ⊢
            unfold opStep
            rw [if_pos (by rfl)]
            have dd := Lib.hid (HX.out.1 _ hbw)
            have d0 := dd.out.1
            have d1 := dd.out.2
            simp only [Nat.zero_add] at d0 d1
            go_simp
            exact hK.out _ _ (Below.refl _ _) rfl _ rfl
          case c7 =>
            intro wq hbw st  K hK
            simp only [Act.put, List.setIfInBounds_toArray, List.set_cons_zero, List.set_cons_succ] at hK ⊢
            unfold opStep
            rw [if_pos (by rfl)]
            have dd := Lib.hid (HE.out.1 _ hbw)
            have d0 := dd.out.1
            have d1 := dd.out.2
            go_simp
            exact hK.out _ _ (Below.refl _ _) rfl _ rfl
          case c8 =>
            intro wq hbw st  K hK
            simp only [Act.put, List.setIfInBounds_toArray, List.set_cons_zero, List.set_cons_succ] at hK ⊢
            unfold opStep
            rw [if_pos (by rfl)]
            go_simp
            have hpc := same_any _ _ x e wq ⟨_, rfl, HX.out.2.keep hbw⟩ ⟨_, rfl, HE.out.2.keep hbw⟩
            rw [HD.out] at hpc
            refine hpc.mono ?_
            rintro e wz ⟨rfl, hbz⟩
            go_simp
            exact hK.out _ _ hbz rfl _ rfl
          case c9 =>
            intro wq hbw st  K hK
            simp only [Act.put, List.setIfInBounds_toArray, List.set_cons_zero, List.set_cons_succ] at hK ⊢
            unfold opStep
            rw [if_pos (by rfl)]
            go_simp
            exact hK.out _ _ (Below.refl _ _) rfl _ rfl
          case c10 =>
            intro wq hbw st  K hK
            simp only [Act.put, List.setIfInBounds_toArray, List.set_cons_zero, List.set_cons_succ] at hK ⊢
            unfold opStep
            rw [if_pos (by rfl)]
            go_simp
            exact hK.out _ _ (Below.refl _ _) rfl _ rfl
          case cfin =>
            intro wq hbw
            try simp only [FinAll]
            simp only [Act.put, List.setIfInBounds_toArray, List.set_cons_zero, List.set_cons_succ]
            have KW2 := Lib.hid (KW.out.trans (hbw.mono KW.out.size))
            have HOW2 := Lib.hid (HB2.out.2.later (stableW _ _) hbw)
            clear hbw HX HE HB2 KW
            go_wp2
            go_ret
            exact ⟨ret_bool HF.out.symm, KW2.out⟩
    · have HF : Hid (res = true) := Lib.hid (by rw [← HPX.out, List.drop_eq_nil_of_le (by omega)]; rfl)
      have KW := Lib.hid HOW.out.1.2.2
      go_wp2
      go_ret
      exact ⟨ret_bool HF.out.symm, KW.out⟩
end Go.Proofs.Ytfdicndmebhmdaa
