/-
  Chapter 55: chaincheck.Verify.
-/
import Derived.Test.YtjijlhjggpibjaaGreatHg
import Derived.Test.YtjijlhjggpibjaaGreatLa
import Derived.Test.YtjijlhjggpibjaaGreatMg
namespace Go.Proofs.YtjijlhjggpibjaaGreat
open Go.RowKit Go.Maps

theorem keyI64 {s : Int} (h : 0 ≤ s ∧ s < 4294967296) : keyOf Tryz.prog 3 (.int .i64 s) = some (.int .i64 s) := by
  have hu := Tryz.underlying3
  have hw : (Lit.int .i64 s).wf = true := by simp [Lit.wf, IntKind.min, IntKind.max, IntKind.bits, IntKind.signed]; omega
  simp [keyOf, mapKey, hu, hw]
def plcD (v : Value) : Option Int := match v with
  | .int .i64 n => some n
  | _ => none
/-- map[int]int. -/
noncomputable def plcT : MapTy Int Int where
  t := 42
  k := 3
  e := 3
  kd := int_keyed Tryz.underlying3
  ht := Tryz.underlying42
  kv := fun s => .int .i64 s
  kl := fun s => .int .i64 s
  ok := fun s => 0 ≤ s ∧ s < 4294967296
  hkey := fun _ h => keyI64 h
  klit := fun _ => trivial
  kinj := fun s s' h => by injection h
  V := fun n => .int .i64 n
  dec := plcD
  Dt := fun n => .lit (.int .i64 n)
  dV := fun _ => rfl
  Vd := fun v a h => by
    unfold plcD at h
    split at h
    · injection h with h; subst h; rfl
    · cases h
  Dinj := fun a b h => by
    injection h with h
    injection h
  z0 := 0
  hz := fun w => Tryz.zeroValue3 w
/-- Where each index has been placed. -/
def plM (l : List Int) : Nat → Int → Option Int
  | 0 => fun _ => none
  | k + 1 => updM (plM l k) (l.getD k 0) (k : Int)
theorem plM_at {l : List Int} (hn : l.Nodup) : ∀ k, k ≤ l.length → ∀ x v, plM l k x = some v ↔ ∃ j : Nat, j < k ∧ l[j]? = some x ∧ v = (j : Int)
  | 0, _, x, v => by
    constructor
    · intro h; cases h
    · rintro ⟨j, hj, _⟩; omega
  | k + 1, hk, x, v => by
    have ih := plM_at hn k (by omega)
    have hg : l.getD k 0 = l[k] := by rw [List.getD_eq_getElem?_getD, List.getElem?_eq_getElem (by omega)]; rfl
    have hu : ∀ j (_ : j < k) (hj : j < l.length), ¬ l[j] = l[k] := fun j hjk hj e => by
      have := List.pairwise_iff_getElem.1 hn j k hj (by omega) hjk
      exact this e
    unfold plM
    rw [hg]
    by_cases e : x = l[k]
    · subst e
      rw [updM_same]
      constructor
      · intro h
        injection h with h
        exact ⟨k, by omega, List.getElem?_eq_getElem (by omega), h.symm⟩
      · rintro ⟨j, hj, h1, rfl⟩
        by_cases e2 : j = k
        · subst e2; rfl
        · rw [List.getElem?_eq_getElem (by omega)] at h1
          injection h1 with h1
          exact absurd h1 (hu j (by omega) (by omega))
    · rw [updM_other _ _ e, ih]
      constructor
      · rintro ⟨j, hj, h1, h2⟩
        exact ⟨j, by omega, h1, h2⟩
      · rintro ⟨j, hj, h1, h2⟩
        by_cases e2 : j = k
        · subst e2
          rw [List.getElem?_eq_getElem (by omega)] at h1
          injection h1 with h1
          exact absurd h1.symm e
        · exact ⟨j, by omega, h1, h2⟩
theorem plM_in {l : List Int} (hn : l.Nodup) (x : Int) : (plM l l.length x).isSome = decide (x ∈ l) := by
  rw [Bool.eq_iff_iff, decide_eq_true_iff, Option.isSome_iff_exists]
  constructor
  · rintro ⟨v, hv⟩
    obtain ⟨j, _, h1, _⟩ := (plM_at hn l.length (Nat.le_refl _) x v).1 hv
    exact List.mem_of_getElem? h1
  · intro hx
    obtain ⟨j, hj, rfl⟩ := List.getElem_of_mem hx
    exact ⟨j, (plM_at hn l.length (Nat.le_refl _) _ _).2 ⟨j, hj, List.getElem?_eq_getElem hj, rfl⟩⟩
/-- What Verify asks. -/
def VerP (h : List Opn) (order : List Int) : Prop :=
  (chkL h).2 = 0 ∧ legB h order = true ∧ (∀ i : Nat, (i : Int) ∈ order → ¬ (kindO (nth h i) = 2 ∧ endO (nth h i) < 0)) ∧ (∀ i, i < h.length → 0 ≤ endO (nth h i) → (i : Int) ∈ order) ∧
  ∀ (a b i k : Nat), order[a]? = some (i : Int) → order[b]? = some (k : Int) → b < a → prI h i k = false
open Classical in
noncomputable def verB (h : List Opn) (order : List Int) : Bool := decide (VerP h order)
open Classical in
theorem ver_iff {h : List Opn} {order : List Int} : verB h order = true ↔ VerP h order := by unfold verB; exact decide_eq_true_iff
theorem leg_ok {h : List Opn} : ∀ (r U : List Int) (S : List Str), legFrom h r U S = true → (∀ i ∈ r, 0 ≤ i ∧ i < (h.length : Int) ∧ i ∉ U) ∧ r.Nodup
  | [], _, _, _ => ⟨(fun i hi => by cases hi), List.nodup_nil⟩
  | i :: r, U, S, hl => by
    by_cases hb : i < 0 ∨ (h.length : Int) ≤ i ∨ i ∈ U
    · rw [legFrom_bad hb] at hl; cases hl
    · have h0 : 0 ≤ i ∧ i < (h.length : Int) ∧ i ∉ U := ⟨Int.not_lt.1 fun q => hb (.inl q), Int.not_le.1 fun q => hb (.inr (.inl q)), fun q => hb (.inr (.inr q))⟩
      obtain ⟨n, rfl⟩ := Int.eq_ofNat_of_zero_le h0.1
      rw [legFrom_ok (by omega) h0.2.2] at hl
      have hrec : ∃ S', legFrom h r (U ++ [(n : Int)]) S' = true := by
        split at hl
        · exact ⟨_, hl⟩
        · split at hl
          · rw [Bool.and_eq_true] at hl
            exact ⟨_, hl.2⟩
          · exact ⟨_, hl⟩
      obtain ⟨S', hl'⟩ := hrec
      obtain ⟨h1, h2⟩ := leg_ok r _ _ hl'
      refine ⟨fun j hj => ?_, List.nodup_cons.2 ⟨fun hm => (h1 _ hm).2.2 (by simp), h2⟩⟩
      rcases List.mem_cons.1 hj with rfl | hj
      · exact h0
      · exact ⟨(h1 j hj).1, (h1 j hj).2.1, fun hm => (h1 j hj).2.2 (by simp [hm])⟩

/-- Two placed operations are in order. -/
def OkIK (h : List Opn) (M : Int → Option Int) (i k : Nat) : Prop := ∀ a b : Int, M (i : Int) = some a → M (k : Int) = some b → b < a → prI h i k = false

set_option maxRecDepth 100000 in
set_option maxHeartbeats 16000000 in
theorem ver_any (v u : Value) (h : List Opn) (is : List Int) (W : World) (hr : ReadsO W v h) (hq : Reads vi W u is) (hs : SmallH h) (hi : is.length ≤ 1000) : Calls Tryz.prog 14 #[v, u] W (BoolMade W (verB h is)) := by
  have HR := Lib.hid hr
  have HQ := Lib.hid hq
  have HS := Lib.hid hs
  have HCH := Lib.hid (check_any v h W hr hs)
  have hn := hs.1
  obtain ⟨ao, cap, rfl, hl, hm, -, -⟩ := hr
  obtain ⟨ua, uk, rfl, huk, hum, -, -⟩ := hq
  unfold maxLen at hm hum
  clear hs
  have HRES := Lib.hid (ver_iff (h := h) (order := is))
  generalize verB h is = res at *
  have HNO : Hid (¬ VerP h is → res = false) := Lib.hid fun hn => Bool.eq_false_iff.2 fun hc => hn (HRES.out.1 hc)
  unfold ChkMade at HCH
  go_enter Tryz.func14, Tryz.ntmps14
  go_wp2_with fail
  refine HCH.out.mono ?_
  rintro e w1 ⟨rfl, hb1⟩
  have KW1 := Lib.hid hb1
  clear hb1 HCH
  by_cases h0 : (chkL h).2 = 0
  · have H0 := Lib.hid h0
    have e0 := bne_f h0
    have HLE := Lib.hid (legal_any _ _ h is w1 (HR.out.on KW1.out) (HQ.out.keep KW1.out) HS.out hi)
    clear h0
    go_wp2_with fail
    refine HLE.out.mono ?_
    rintro e w2 ⟨rfl, hb2⟩
    have KW2 := Lib.hid (KW1.out.trans (hb2.mono KW1.out.size))
    clear hb2 HLE e0
    by_cases hleg : legB h is = true
    · have HLG := Lib.hid hleg
      have HLO := Lib.hid (leg_ok is [] [] hleg)
      rw [hleg]
      clear hleg
      go_wp2_with (refine wpList_make_map rfl 42 rfl ?_)
      generalize hwm : World.alloc w2 _ = wm
      have HM0 : Hid (MapAt plcT wm w2.heap.size 0 (plM is 0) ∧ Below W.heap.size W wm) := Lib.hid (by
        subst hwm
        exact ⟨MapAt.made plcT w2, KW2.out.alloc KW2.out.size _⟩)
      have HGW : Hid (W.heap.size ≤ w2.heap.size) := Lib.hid KW2.out.size
      clear hwm KW2
      generalize w2.heap.size = gm at *
      go_wp2
      go_loopg [36] is.length (fun m i wr => ∃ k : Nat, m + k = is.length ∧ i = .int .i64 k ∧ MapAt plcT wr gm k (plM is k) ∧ (∀ j i : Nat, j < k → is[j]? = some (i : Int) → ¬ (kindO (nth h i) = 2 ∧ endO (nth h i) < 0)) ∧ Below W.heap.size W wr)
      case atStart => exact ⟨0, by omega, rfl, HM0.out.1, (fun j i hj => by omega), HM0.out.2⟩
      case round =>
        clear HM0
        obtain ⟨k, hmk, rfl, hmap, hall, hbel⟩ := hrel
        have HM := Lib.hid hmk
        have HMAP := Lib.hid hmap
        have HALL := Lib.hid hall
        have KW := Lib.hid hbel
        have hk : k ≤ is.length := by omega
        clear hmk hmap hall hbel KW1
        by_cases hlt : k < is.length
        · obtain ⟨bo, oo, co, hv, hbo, hco⟩ := int_at HQ.out hlt
          injection hv with e1 e2 e3
          subst e1
          have hki : (k : Int) < is.length := by omega
          have hk0 : (0 : Int) ≤ (k : Int) := by omega
          have q0 := (KW.out.cell (p := ⟨bo, oo + k, none⟩) hbo).trans hco
          have hin := HLO.out.1 _ (List.getElem_mem hlt)
          have HGE : Hid (is[k]? = some is[k]) := Lib.hid (List.getElem?_eq_getElem hlt)
          have HGD : Hid (is.getD k 0 = is[k]) := Lib.hid (by rw [List.getD_eq_getElem?_getD, HGE.out]; rfl)
          have HMI := Lib.hid (List.getElem_mem hlt)
          unfold vi at q0
          clear e2 e3 hco hbo
          generalize is[k] = i at *
          obtain ⟨x, rfl⟩ := Int.eq_ofNat_of_zero_le hin.1
          have hxl : x < h.length := by omega
          have HSTEP : Hid (¬ (kindO (nth h x) = 2 ∧ endO (nth h x) < 0) → ∀ j i : Nat, j < k + 1 → is[j]? = some (i : Int) → ¬ (kindO (nth h i) = 2 ∧ endO (nth h i) < 0)) := Lib.hid fun hok j i hj hji => by
            by_cases e : j = k
            · subst e
              rw [HGE.out] at hji
              injection hji with hji
              have e2 : x = i := by omega
              subst e2; exact hok
            · exact HALL.out j i (by omega) hji
          have HBAD : Hid (kindO (nth h x) = 2 ∧ endO (nth h x) < 0 → res = false) := Lib.hid fun hb => HNO.out fun hv => hv.2.2.1 x HMI.out hb
          have HNX : Hid (nth h x = h[x]) := Lib.hid (nth_eq hxl)
          rw [HNX.out] at HSTEP HBAD
          obtain ⟨b, off, cap1, a4, c4, a5, c5, hv, _, _, hm4, hm5, hl4, hl5, hcell, r1, r2⟩ := HR.out.at2 hxl
          injection hv with e1 e2 e3
          subst e1
          have hxi : (x : Int) < h.length := by omega
          have hx0 : (0 : Int) ≤ (x : Int) := by omega
          have dd := Lib.hid (hcell wr KW.out)
          have d1 := dd.out.2.1
          have d3 := dd.out.2.2.2.1
          have hx32 : (x : Int) < 4294967296 := by omega
          have HPU : Hid (∀ w', MapAt plcT w' gm (k + 1) (updM (plM is k) (x : Int) (k : Int)) → MapAt plcT w' gm (k + 1) (plM is (k + 1))) := Lib.hid fun w' hw => by
            show MapAt plcT w' gm (k + 1) (updM (plM is k) (is.getD k 0) (k : Int))
            rw [HGD.out]; exact hw
          clear e2 e3 hcell r1 r2 dd hin HALL
          generalize h[x] = y at *
          clear hlt hxl
          by_cases hk2 : kindO y = 2
          · have e1 := beq_iff_eq.2 hk2
            by_cases he : endO y < 0
            · have HE := Lib.hid (HBAD.out ⟨hk2, he⟩)
              clear hk2
              go_wp2
              go_ret
              exact ⟨ret_bool HE.out.symm, KW.out⟩
            · have HOK := Lib.hid (HSTEP.out fun q => he q.2)
              clear hk2
              go_wp2_with (refine wpList_map_put plcT rfl (.tmp 55) (.tmp 56) (.tmp 57) rfl gm k (plM is k) (x : Int) (k : Int) rfl HMAP.out (by unfold maxLen; omega) rfl ⟨hx0, hx32⟩ rfl ?_)
              intro w8 hmap8 hgr8
              have HM8 : Hid (MapAt plcT w8 gm (k + 1) (plM is (k + 1)) ∧ Below W.heap.size W w8) := Lib.hid ⟨HPU.out _ hmap8, KW.out.grown hgr8 KW.out.size (fun j hj => by injection hj with hj; subst hj; exact HGW.out)⟩
              clear hmap8 hgr8
              go_wp2
              go_roundg (is.length - (k + 1))
              case measure => have := HM.out; omega
              case rel => exact ⟨k + 1, by omega, by go_num, HM8.out.1, HOK.out, HM8.out.2⟩
          · have e1 := beq_eq_false_iff_ne.2 hk2
            have HOK := Lib.hid (HSTEP.out fun q => hk2 q.1)
            clear hk2
            go_wp2_with (refine wpList_map_put plcT rfl (.tmp 55) (.tmp 56) (.tmp 57) rfl gm k (plM is k) (x : Int) (k : Int) rfl HMAP.out (by unfold maxLen; omega) rfl ⟨hx0, hx32⟩ rfl ?_)
            intro w8 hmap8 hgr8
            have HM8 : Hid (MapAt plcT w8 gm (k + 1) (plM is (k + 1)) ∧ Below W.heap.size W w8) := Lib.hid ⟨HPU.out _ hmap8, KW.out.grown hgr8 KW.out.size (fun j hj => by injection hj with hj; subst hj; exact HGW.out)⟩
            clear hmap8 hgr8
            go_wp2
            go_roundg (is.length - (k + 1))
            case measure => have := HM.out; omega
            case rel => exact ⟨k + 1, by omega, by go_num, HM8.out.1, HOK.out, HM8.out.2⟩
        · have hkk : k = is.length := by omega
          subst hkk
          have HKI : Hid (∀ i : Nat, (i : Int) ∈ is → ¬ (kindO (nth h i) = 2 ∧ endO (nth h i) < 0)) := Lib.hid fun i hi => by
            obtain ⟨j, hj, he⟩ := List.getElem_of_mem hi
            exact HALL.out j i hj (by rw [List.getElem?_eq_getElem hj, he])
          have HNP := Lib.hid (plM_at HLO.out.2 is.length (Nat.le_refl _))
          have HPI := Lib.hid (plM_in HLO.out.2)
          have hil := hi
          clear HALL hk hlt
          generalize plM is is.length = M at *
          obtain ⟨cnt, hcnt⟩ : ∃ c, c = is.length := ⟨_, rfl⟩
          have HCT := Lib.hid hcnt
          rw [← hcnt] at HMAP HNP
          clear hcnt
          obtain ⟨G2, hG2⟩ : ∃ G, G = gk := ⟨_, rfl⟩
          subst hG2
          go_wp2
          go_loopg [61] h.length (fun m i wr => ∃ q : Nat, m + q = h.length ∧ i = .int .i64 q ∧ MapAt plcT wr gm cnt M ∧ (∀ j, j < q → 0 ≤ endO (nth h j) → (j : Int) ∈ is) ∧ Below W.heap.size W wr)
          case atStart => exact ⟨0, by omega, rfl, HMAP.out, (fun j hj => by omega), KW.out⟩
          case round =>
            clear HMAP KW
            obtain ⟨q, hmq, rfl, hmap, hall, hbel⟩ := hrel
            have HM2 := Lib.hid hmq
            have HMAP := Lib.hid hmap
            have HALL := Lib.hid hall
            have KW := Lib.hid hbel
            have hq : q ≤ h.length := by omega
            clear hmq hmap hall hbel
            by_cases hql : q < h.length
            · obtain ⟨b, off, cap1, a4, c4, a5, c5, hv, _, _, hm4, hm5, hl4, hl5, hcell, r1, r2⟩ := HR.out.at2 hql
              injection hv with e1 e2 e3
              subst e1
              have hqi : (q : Int) < h.length := by omega
              have hq0 : (0 : Int) ≤ (q : Int) := by omega
              have dd := Lib.hid (hcell wr KW.out)
              have x0 := dd.out.1
              have x1 := dd.out.2.1
              have x2 := dd.out.2.2.1
              have x3 := dd.out.2.2.2.1
              have x4 := dd.out.2.2.2.2.1
              have x5 := dd.out.2.2.2.2.2
              have HNX : Hid (nth h q = h[q]) := Lib.hid (nth_eq hql)
              have HSTEP : Hid ((0 ≤ endO (nth h q) → (q : Int) ∈ is) → ∀ j, j < q + 1 → 0 ≤ endO (nth h j) → (j : Int) ∈ is) := Lib.hid fun hok j hj he => by
                by_cases e : j = q
                · subst e; exact hok he
                · exact HALL.out j (by omega) he
              have HBAD : Hid (0 ≤ endO (nth h q) → (q : Int) ∉ is → res = false) := Lib.hid fun he hn => HNO.out fun hv => hn (hv.2.2.2.1 q (by omega) he)
              rw [HNX.out] at HSTEP HBAD
              have hq32 : (0 : Int) ≤ (q : Int) ∧ (q : Int) < 4294967296 := ⟨by omega, by omega⟩
              have HQ32 := Lib.hid hq32
              have HPQ := Lib.hid (HPI.out (q : Int))
              have HBX : Hid (∀ o, Below wr.heap.size wr (wr.alloc o)) := Lib.hid fun o => (Below.refl _ _).alloc (Nat.le_refl _) o
              clear e2 e3 hcell r1 r2 dd hq32
              generalize h[q] = y at *
              obtain ⟨pv, hpv⟩ : ∃ z, z = (M (q : Int)).getD 0 := ⟨_, rfl⟩
              have HV : Hid (plcT.V ((M (q : Int)).getD plcT.z0) = .int .i64 pv) := Lib.hid (by rw [hpv]; rfl)
              clear hpv hql
              by_cases hin : (q : Int) ∈ is
              · have HOK := Lib.hid (HSTEP.out fun _ => hin)
                have HC : Hid ((M (q : Int)).isSome = true) := Lib.hid (HPQ.out.trans (decide_eq_true hin))
                clear hin
                go_wp2_with (refine wpList_map_ok plcT rfl (.tmp 67) (.tmp 68) rfl gm cnt M (q : Int) rfl (HMAP.out.on (HBX.out _)) rfl HQ32.out HV.out HC.out ?_)
                go_roundg (h.length - (q + 1))
                case measure => have := HM2.out; omega
                case rel => exact ⟨q + 1, by omega, by go_num, HMAP.out.on (HBX.out _), HOK.out, KW.out.trans ((HBX.out _).mono KW.out.size)⟩
              · have HC : Hid ((M (q : Int)).isSome = false) := Lib.hid (HPQ.out.trans (decide_eq_false hin))
                by_cases he : 0 ≤ endO y
                · have HE := Lib.hid (HBAD.out he hin)
                  clear hin
                  go_wp2_with (refine wpList_map_ok plcT rfl (.tmp 67) (.tmp 68) rfl gm cnt M (q : Int) rfl (HMAP.out.on (HBX.out _)) rfl HQ32.out HV.out HC.out ?_)
                  go_ret
                  exact ⟨ret_bool HE.out.symm, KW.out.trans ((HBX.out _).mono KW.out.size)⟩
                · have HOK := Lib.hid (HSTEP.out fun q => absurd q he)
                  clear hin
                  go_wp2_with (refine wpList_map_ok plcT rfl (.tmp 67) (.tmp 68) rfl gm cnt M (q : Int) rfl (HMAP.out.on (HBX.out _)) rfl HQ32.out HV.out HC.out ?_)
                  go_roundg (h.length - (q + 1))
                  case measure => have := HM2.out; omega
                  case rel => exact ⟨q + 1, by omega, by go_num, HMAP.out.on (HBX.out _), HOK.out, KW.out.trans ((HBX.out _).mono KW.out.size)⟩
            · have HAL2 : Hid (∀ i, i < h.length → 0 ≤ endO (nth h i) → (i : Int) ∈ is) := Lib.hid fun i hi he => HALL.out i (by omega) he
              have hqx : ¬ (q : Int) < h.length := by omega
              obtain ⟨G3, hG3⟩ : ∃ G, G = gk := ⟨_, rfl⟩
              subst hG3
              clear HALL
              go_wp2
              go_loopg [82] h.length (fun m i wr => ∃ x : Nat, m + x = h.length ∧ i = .int .i64 x ∧ MapAt plcT wr gm cnt M ∧ (∀ i k : Nat, i < x → k < h.length → OkIK h M i k) ∧ Below W.heap.size W wr)
              case atStart => exact ⟨0, by omega, rfl, HMAP.out, (fun i k hi => by omega), KW.out⟩
              case round =>
                clear HMAP KW
                obtain ⟨x, hmx, rfl, hmap, hall, hbel⟩ := hrel
                have HM3 := Lib.hid hmx
                have HMAP := Lib.hid hmap
                have HALL := Lib.hid hall
                have KW := Lib.hid hbel
                have hx : x ≤ h.length := by omega
                clear hmx hmap hall hbel
                by_cases hxl : x < h.length
                · obtain ⟨b, off, cap1, a4, c4, a5, c5, hv, _, _, hm4, hm5, hl4, hl5, hcell, r1, r2⟩ := HR.out.at2 hxl
                  injection hv with e1 e2 e3
                  subst e1
                  have hxi : (x : Int) < h.length := by omega
                  have hx0 : (0 : Int) ≤ (x : Int) := by omega
                  have HX32 : Hid ((0 : Int) ≤ (x : Int) ∧ (x : Int) < 4294967296) := Lib.hid ⟨by omega, by omega⟩
                  have HN := Lib.hid (And.intro hcell (And.intro r1 r2))
                  have HNX : Hid (nth h x = h[x]) := Lib.hid (nth_eq hxl)
                  obtain ⟨pa, hpa⟩ : ∃ z, z = (M (x : Int)).getD 0 := ⟨_, rfl⟩
                  have HVA : Hid (plcT.V ((M (x : Int)).getD plcT.z0) = .int .i64 pa) := Lib.hid (by rw [hpa]; rfl)
                  have HPA := Lib.hid hpa
                  obtain ⟨ia, hia⟩ : ∃ z, z = (M (x : Int)).isSome := ⟨_, rfl⟩
                  have HIA := Lib.hid hia
                  have HXN := Lib.hid (And.intro hxl trivial)
                  clear e2 e3 hcell r1 r2 hpa hia
                  generalize h[x] = o at *
                  clear hxl
                  obtain ⟨G4, hG4⟩ : ∃ G, G = gk := ⟨_, rfl⟩
                  subst hG4
                  go_wp2
                  go_loopg [87] h.length (fun m i wr => ∃ z : Nat, m + z = h.length ∧ i = .int .i64 z ∧ MapAt plcT wr gm cnt M ∧ (∀ k : Nat, k < z → OkIK h M x k) ∧ Below W.heap.size W wr)
                  case atStart => exact ⟨0, by omega, rfl, HMAP.out, (fun k hk => by omega), KW.out⟩
                  case round =>
                    clear HMAP KW
                    obtain ⟨z, hmz, rfl, hmap, hrow, hbel⟩ := hrel
                    have HM4 := Lib.hid hmz
                    have HMAP := Lib.hid hmap
                    have HROW := Lib.hid hrow
                    have KW := Lib.hid hbel
                    have hz : z ≤ h.length := by omega
                    clear hmz hmap hrow hbel
                    by_cases hzl : z < h.length
                    · obtain ⟨b', off', cap2', d4, k4, d5, k5, hv, _, _, n4, n5, l4, l5, hcell, s1', s2'⟩ := HR.out.at2 hzl
                      injection hv with e5 e6 e7
                      injection e5 with e5
                      injection e5 with e5 e8
                      subst e5 e8
                      have hzi : (z : Int) < h.length := by omega
                      have hz0 : (0 : Int) ≤ (z : Int) := by omega
                      have HZ32 : Hid ((0 : Int) ≤ (z : Int) ∧ (z : Int) < 4294967296) := Lib.hid ⟨by omega, by omega⟩
                      have HN2 := Lib.hid (And.intro hcell (And.intro s1' s2'))
                      have HPE : Hid (prI h x z = precB o h[z]) := Lib.hid (by unfold prI; rw [HNX.out, nth_eq hzl])
                      obtain ⟨pb, hpb⟩ : ∃ y, y = (M (z : Int)).getD 0 := ⟨_, rfl⟩
                      have HVB : Hid (plcT.V ((M (z : Int)).getD plcT.z0) = .int .i64 pb) := Lib.hid (by rw [hpb]; rfl)
                      obtain ⟨ib, hib⟩ : ∃ y, y = (M (z : Int)).isSome := ⟨_, rfl⟩
                      have HIB := Lib.hid hib
                      have HOKS : Hid ((ia = true → ib = true → pb < pa → prI h x z = false) → ∀ k : Nat, k < z + 1 → OkIK h M x k) := Lib.hid fun hok k hk => by
                        by_cases e : k = z
                        · subst e
                          intro a b ha hb hab
                          refine hok (by rw [HIA.out, ha]; rfl) (by rw [hib, hb]; rfl) ?_
                          rw [HPA.out, hpb, ha, hb]; exact hab
                        · exact HROW.out k (by omega)
                      have HBAD : Hid (ia = true → ib = true → pb < pa → prI h x z = true → res = false) := Lib.hid fun h1 h2 h3 h4 => HNO.out fun hv => by
                        rw [HIA.out, Option.isSome_iff_exists] at h1
                        rw [hib, Option.isSome_iff_exists] at h2
                        obtain ⟨a, ha⟩ := h1
                        obtain ⟨c, hc⟩ := h2
                        rw [HPA.out, hpb, ha, hc] at h3
                        obtain ⟨ja, _, ea, rfl⟩ := (HNP.out _ _).1 ha
                        obtain ⟨jb, _, eb, rfl⟩ := (HNP.out _ _).1 hc
                        have h3' : ((jb : Nat) : Int) < ((ja : Nat) : Int) := h3
                        have := hv.2.2.2.2 ja jb x z ea eb (by omega)
                        rw [h4] at this; cases this
                      rw [HPE.out] at HOKS HBAD
                      clear e6 e7 hcell s1' s2' hpb hib HPE
                      generalize h[z] = y at *
                      clear hzl
                      by_cases ha : ia = true
                      · have HA := Lib.hid ha
                        by_cases hb : ib = true
                        · have HB := Lib.hid hb
                          by_cases hlt : pb < pa
                          · have HDL := Lib.hid (decide_eq_true hlt)
                            by_cases hp : precB o y = true
                            · have P1 := Lib.hid hp
                              have HE := Lib.hid (HBAD.out ha hb hlt hp)
                              clear ha hb hlt hp
                              go_wp2_with (first | (refine wpList_map_ok plcT rfl (.tmp 91) (.tmp 92) rfl gm cnt M (x : Int) rfl HMAP.out rfl HX32.out HVA.out (HIA.out.symm.trans HA.out) ?_) | (refine wpList_map_ok plcT rfl (.tmp 97) (.tmp 98) rfl gm cnt M (z : Int) rfl HMAP.out rfl HZ32.out HVB.out (HIB.out.symm.trans HB.out) ?_) | fail)
                              go_upto_region 27 with fail
                              refine region_left [.is (.bool true), .is (.bool true), .is (.bool true), .is (.bool true), .is (.bool true), .is (.int .i64 pb), .is (.int .i64 pa), .is (.bool true), .is (.bool true), .is (.bool true), .is (.slice (some ⟨b, off, none⟩) h.length cap), .is (.int .i64 (x : Int)), .is (.pointer (some ⟨b, off + x * 6, none⟩)), .is (.agg #[.int .i64 (cliO o), .int .i64 (kindO o), .int .i64 (begO o), .int .i64 (endO o), .slice a4 (addO o).length c4, .slice a5 (seeO o).length c5]), .is (.slice (some ⟨b, off, none⟩) h.length cap), .is (.int .i64 (z : Int)), .is (.pointer (some ⟨b, off + z * 6, none⟩)), .is (.agg #[.int .i64 (cliO y), .int .i64 (kindO y), .int .i64 (begO y), .int .i64 (endO y), .slice d4 (addO y).length k4, .slice d5 (seeO y).length k5]), .is (.bool true), .is (.bool true)] (by kernel_rfl) rfl (by kernel_rfl) (by kernel_rfl) (.cons ?r1_0 (.cons ?r1_1 (.cons ?r1_2 (.cons ?r1_3 (.cons ?r1_4 (.cons ?r1_5 (.cons ?r1_6 (.cons ?r1_7 (.cons ?r1_8 (.cons ?r1_9 (.cons ?r1_10 (.cons ?r1_11 (.cons ?r1_12 (.cons ?r1_13 (.cons ?r1_14 (.cons ?r1_15 (.cons ?r1_16 (.cons ?r1_17 (.cons ?r1_18 (.cons ?r1_19 .nil)))))))))))))))))))) ?r1_fin
                              case r1_0 =>
                                intro wq hbw st  K hK
                                have KQ := KW.out.trans (hbw.mono KW.out.size)
                                simp only [Act.put, List.setIfInBounds_toArray, List.set_cons_zero, List.set_cons_succ] at hK ⊢
                                unfold opStep
                                rw [if_pos (by rfl)]
                                go_simp
                                exact hK.out _ _ (Below.refl _ _) rfl _ rfl
                              case r1_1 =>
                                intro wq hbw st  K hK
                                have KQ := KW.out.trans (hbw.mono KW.out.size)
                                simp only [Act.put, List.setIfInBounds_toArray, List.set_cons_zero, List.set_cons_succ] at hK ⊢
                                unfold opStep
                                rw [if_pos (by rfl)]
                                go_simp
                                exact hK.out _ _ (Below.refl _ _) rfl _ rfl
                              case r1_2 =>
                                intro wq hbw st  K hK
                                have KQ := KW.out.trans (hbw.mono KW.out.size)
                                simp only [Act.put, List.setIfInBounds_toArray, List.set_cons_zero, List.set_cons_succ] at hK ⊢
                                unfold opStep
                                rw [if_pos (by rfl)]
                                go_simp
                                exact hK.out _ _ (Below.refl _ _) rfl _ rfl
                              case r1_3 =>
                                intro wq hbw st  K hK
                                have KQ := KW.out.trans (hbw.mono KW.out.size)
                                simp only [Act.put, List.setIfInBounds_toArray, List.set_cons_zero, List.set_cons_succ] at hK ⊢
                                unfold opStep
                                rw [if_pos (by rfl)]
                                go_simp
                                exact hK.out _ _ (Below.refl _ _) rfl _ rfl
                              case r1_4 =>
                                intro wq hbw st  K hK
                                have KQ := KW.out.trans (hbw.mono KW.out.size)
                                simp only [Act.put, List.setIfInBounds_toArray, List.set_cons_zero, List.set_cons_succ] at hK ⊢
                                unfold opStep
                                rw [if_pos (by rfl)]
                                go_simp
                                exact hK.out _ _ (Below.refl _ _) rfl _ rfl
                              case r1_5 =>
                                intro wq hbw st  K hK
                                have KQ := KW.out.trans (hbw.mono KW.out.size)
                                simp only [Act.put, List.setIfInBounds_toArray, List.set_cons_zero, List.set_cons_succ] at hK ⊢
                                unfold opStep
                                rw [if_pos (by rfl)]
                                go_simp
                                exact hK.out _ _ (Below.refl _ _) rfl _ rfl
                              case r1_6 =>
                                intro wq hbw st  K hK
                                have KQ := KW.out.trans (hbw.mono KW.out.size)
                                simp only [Act.put, List.setIfInBounds_toArray, List.set_cons_zero, List.set_cons_succ] at hK ⊢
                                unfold opStep
                                rw [if_pos (by rfl)]
                                go_simp
                                exact hK.out _ _ (Below.refl _ _) rfl _ rfl
                              case r1_7 =>
                                intro wq hbw st  K hK
                                have KQ := KW.out.trans (hbw.mono KW.out.size)
                                simp only [Act.put, List.setIfInBounds_toArray, List.set_cons_zero, List.set_cons_succ] at hK ⊢
                                unfold opStep
                                rw [if_pos (by rfl)]
                                have hdl := HDL.out
                                go_simp
                                exact hK.out _ _ (Below.refl _ _) rfl _ rfl
                              case r1_8 =>
                                intro wq hbw st  K hK
                                have KQ := KW.out.trans (hbw.mono KW.out.size)
                                simp only [Act.put, List.setIfInBounds_toArray, List.set_cons_zero, List.set_cons_succ] at hK ⊢
                                unfold opStep
                                rw [if_pos (by rfl)]
                                go_simp
                                exact hK.out _ _ (Below.refl _ _) rfl _ rfl
                              case r1_9 =>
                                intro wq hbw st  K hK
                                have KQ := KW.out.trans (hbw.mono KW.out.size)
                                simp only [Act.put, List.setIfInBounds_toArray, List.set_cons_zero, List.set_cons_succ] at hK ⊢
                                unfold opStep
                                rw [if_pos (by rfl)]
                                go_simp
                                exact hK.out _ _ (Below.refl _ _) rfl _ rfl
                              case r1_10 =>
                                intro wq hbw st  K hK
                                have KQ := KW.out.trans (hbw.mono KW.out.size)
                                simp only [Act.put, List.setIfInBounds_toArray, List.set_cons_zero, List.set_cons_succ] at hK ⊢
                                unfold opStep
                                rw [if_pos (by rfl)]
                                go_simp
                                exact hK.out _ _ (Below.refl _ _) rfl _ rfl
                              case r1_11 =>
                                intro wq hbw st  K hK
                                have KQ := KW.out.trans (hbw.mono KW.out.size)
                                simp only [Act.put, List.setIfInBounds_toArray, List.set_cons_zero, List.set_cons_succ] at hK ⊢
                                unfold opStep
                                rw [if_pos (by rfl)]
                                go_simp
                                exact hK.out _ _ (Below.refl _ _) rfl _ rfl
                              case r1_12 =>
                                intro wq hbw st  K hK
                                have KQ := KW.out.trans (hbw.mono KW.out.size)
                                simp only [Act.put, List.setIfInBounds_toArray, List.set_cons_zero, List.set_cons_succ] at hK ⊢
                                unfold opStep
                                rw [if_pos (by rfl)]
                                go_simp
                                exact hK.out _ _ (Below.refl _ _) rfl _ rfl
                              case r1_13 =>
                                intro wq hbw st  K hK
                                have KQ := KW.out.trans (hbw.mono KW.out.size)
                                simp only [Act.put, List.setIfInBounds_toArray, List.set_cons_zero, List.set_cons_succ] at hK ⊢
                                unfold opStep
                                rw [if_pos (by rfl)]
                                have dd := Lib.hid (HN.out.1 wq KQ)
                                have d0 := dd.out.1
                                have d1 := dd.out.2.1
                                have d2 := dd.out.2.2.1
                                have d3 := dd.out.2.2.2.1
                                have d4 := dd.out.2.2.2.2.1
                                have d5 := dd.out.2.2.2.2.2
                                go_simp
                                exact hK.out _ _ (Below.refl _ _) rfl _ rfl
                              case r1_14 =>
                                intro wq hbw st  K hK
                                have KQ := KW.out.trans (hbw.mono KW.out.size)
                                simp only [Act.put, List.setIfInBounds_toArray, List.set_cons_zero, List.set_cons_succ] at hK ⊢
                                unfold opStep
                                rw [if_pos (by rfl)]
                                go_simp
                                exact hK.out _ _ (Below.refl _ _) rfl _ rfl
                              case r1_15 =>
                                intro wq hbw st  K hK
                                have KQ := KW.out.trans (hbw.mono KW.out.size)
                                simp only [Act.put, List.setIfInBounds_toArray, List.set_cons_zero, List.set_cons_succ] at hK ⊢
                                unfold opStep
                                rw [if_pos (by rfl)]
                                go_simp
                                exact hK.out _ _ (Below.refl _ _) rfl _ rfl
                              case r1_16 =>
                                intro wq hbw st  K hK
                                have KQ := KW.out.trans (hbw.mono KW.out.size)
                                simp only [Act.put, List.setIfInBounds_toArray, List.set_cons_zero, List.set_cons_succ] at hK ⊢
                                unfold opStep
                                rw [if_pos (by rfl)]
                                go_simp
                                exact hK.out _ _ (Below.refl _ _) rfl _ rfl
                              case r1_17 =>
                                intro wq hbw st  K hK
                                have KQ := KW.out.trans (hbw.mono KW.out.size)
                                simp only [Act.put, List.setIfInBounds_toArray, List.set_cons_zero, List.set_cons_succ] at hK ⊢
                                unfold opStep
                                rw [if_pos (by rfl)]
                                have dd := Lib.hid (HN2.out.1 wq KQ)
                                have d0 := dd.out.1
                                have d1 := dd.out.2.1
                                have d2 := dd.out.2.2.1
                                have d3 := dd.out.2.2.2.1
                                have d4 := dd.out.2.2.2.2.1
                                have d5 := dd.out.2.2.2.2.2
                                go_simp
                                exact hK.out _ _ (Below.refl _ _) rfl _ rfl
                              case r1_18 =>
                                intro wq hbw st  K hK
                                have KQ := KW.out.trans (hbw.mono KW.out.size)
                                simp only [Act.put, List.setIfInBounds_toArray, List.set_cons_zero, List.set_cons_succ] at hK ⊢
                                unfold opStep
                                rw [if_pos (by rfl)]
                                go_simp
                                have hpc := prec_any _ _ o y wq ⟨_, _, rfl, HN.out.2.1.keep KQ, HN.out.2.2.keep KQ⟩ ⟨_, _, rfl, HN2.out.2.1.keep KQ, HN2.out.2.2.keep KQ⟩
                                rw [P1.out] at hpc
                                refine hpc.mono ?_
                                rintro e wz ⟨rfl, hbz⟩
                                go_simp
                                exact hK.out _ _ hbz rfl _ rfl
                              case r1_19 =>
                                intro wq hbw st  K hK
                                have KQ := KW.out.trans (hbw.mono KW.out.size)
                                simp only [Act.put, List.setIfInBounds_toArray, List.set_cons_zero, List.set_cons_succ] at hK ⊢
                                unfold opStep
                                rw [if_pos (by rfl)]
                                go_simp
                                exact hK.out _ _ (Below.refl _ _) rfl _ rfl
                              case r1_fin =>
                                intro wq hbw
                                try simp only [FinAll]
                                simp only [Act.put, List.setIfInBounds_toArray, List.set_cons_zero, List.set_cons_succ]
                                replace KW := Lib.hid (KW.out.trans (hbw.mono KW.out.size))
                                replace HMAP := Lib.hid (HMAP.out.on hbw)
                                clear hbw
                                go_wp2
                                go_ret
                                exact ⟨ret_bool HE.out.symm, KW.out⟩
                            · have P1 := Lib.hid (Bool.eq_false_iff.2 hp)
                              have HG := Lib.hid (HOKS.out fun _ _ _ => P1.out)
                              clear ha hb hlt hp
                              go_wp2_with (first | (refine wpList_map_ok plcT rfl (.tmp 91) (.tmp 92) rfl gm cnt M (x : Int) rfl HMAP.out rfl HX32.out HVA.out (HIA.out.symm.trans HA.out) ?_) | (refine wpList_map_ok plcT rfl (.tmp 97) (.tmp 98) rfl gm cnt M (z : Int) rfl HMAP.out rfl HZ32.out HVB.out (HIB.out.symm.trans HB.out) ?_) | fail)
                              go_upto_region 27 with fail
                              refine region_left [.is (.bool true), .is (.bool true), .is (.bool true), .is (.bool true), .is (.bool true), .is (.int .i64 pb), .is (.int .i64 pa), .is (.bool true), .is (.bool true), .is (.bool true), .is (.slice (some ⟨b, off, none⟩) h.length cap), .is (.int .i64 (x : Int)), .is (.pointer (some ⟨b, off + x * 6, none⟩)), .is (.agg #[.int .i64 (cliO o), .int .i64 (kindO o), .int .i64 (begO o), .int .i64 (endO o), .slice a4 (addO o).length c4, .slice a5 (seeO o).length c5]), .is (.slice (some ⟨b, off, none⟩) h.length cap), .is (.int .i64 (z : Int)), .is (.pointer (some ⟨b, off + z * 6, none⟩)), .is (.agg #[.int .i64 (cliO y), .int .i64 (kindO y), .int .i64 (begO y), .int .i64 (endO y), .slice d4 (addO y).length k4, .slice d5 (seeO y).length k5]), .is (.bool false), .is (.bool false)] (by kernel_rfl) rfl (by kernel_rfl) (by kernel_rfl) (.cons ?r2_0 (.cons ?r2_1 (.cons ?r2_2 (.cons ?r2_3 (.cons ?r2_4 (.cons ?r2_5 (.cons ?r2_6 (.cons ?r2_7 (.cons ?r2_8 (.cons ?r2_9 (.cons ?r2_10 (.cons ?r2_11 (.cons ?r2_12 (.cons ?r2_13 (.cons ?r2_14 (.cons ?r2_15 (.cons ?r2_16 (.cons ?r2_17 (.cons ?r2_18 (.cons ?r2_19 .nil)))))))))))))))))))) ?r2_fin
                              case r2_0 =>
                                intro wq hbw st  K hK
                                have KQ := KW.out.trans (hbw.mono KW.out.size)
                                simp only [Act.put, List.setIfInBounds_toArray, List.set_cons_zero, List.set_cons_succ] at hK ⊢
                                unfold opStep
                                rw [if_pos (by rfl)]
                                go_simp
                                exact hK.out _ _ (Below.refl _ _) rfl _ rfl
                              case r2_1 =>
                                intro wq hbw st  K hK
                                have KQ := KW.out.trans (hbw.mono KW.out.size)
                                simp only [Act.put, List.setIfInBounds_toArray, List.set_cons_zero, List.set_cons_succ] at hK ⊢
                                unfold opStep
                                rw [if_pos (by rfl)]
                                go_simp
                                exact hK.out _ _ (Below.refl _ _) rfl _ rfl
                              case r2_2 =>
                                intro wq hbw st  K hK
                                have KQ := KW.out.trans (hbw.mono KW.out.size)
                                simp only [Act.put, List.setIfInBounds_toArray, List.set_cons_zero, List.set_cons_succ] at hK ⊢
                                unfold opStep
                                rw [if_pos (by rfl)]
                                go_simp
                                exact hK.out _ _ (Below.refl _ _) rfl _ rfl
                              case r2_3 =>
                                intro wq hbw st  K hK
                                have KQ := KW.out.trans (hbw.mono KW.out.size)
                                simp only [Act.put, List.setIfInBounds_toArray, List.set_cons_zero, List.set_cons_succ] at hK ⊢
                                unfold opStep
                                rw [if_pos (by rfl)]
                                go_simp
                                exact hK.out _ _ (Below.refl _ _) rfl _ rfl
                              case r2_4 =>
                                intro wq hbw st  K hK
                                have KQ := KW.out.trans (hbw.mono KW.out.size)
                                simp only [Act.put, List.setIfInBounds_toArray, List.set_cons_zero, List.set_cons_succ] at hK ⊢
                                unfold opStep
                                rw [if_pos (by rfl)]
                                go_simp
                                exact hK.out _ _ (Below.refl _ _) rfl _ rfl
                              case r2_5 =>
                                intro wq hbw st  K hK
                                have KQ := KW.out.trans (hbw.mono KW.out.size)
                                simp only [Act.put, List.setIfInBounds_toArray, List.set_cons_zero, List.set_cons_succ] at hK ⊢
                                unfold opStep
                                rw [if_pos (by rfl)]
                                go_simp
                                exact hK.out _ _ (Below.refl _ _) rfl _ rfl
                              case r2_6 =>
                                intro wq hbw st  K hK
                                have KQ := KW.out.trans (hbw.mono KW.out.size)
                                simp only [Act.put, List.setIfInBounds_toArray, List.set_cons_zero, List.set_cons_succ] at hK ⊢
                                unfold opStep
                                rw [if_pos (by rfl)]
                                go_simp
                                exact hK.out _ _ (Below.refl _ _) rfl _ rfl
                              case r2_7 =>
                                intro wq hbw st  K hK
                                have KQ := KW.out.trans (hbw.mono KW.out.size)
                                simp only [Act.put, List.setIfInBounds_toArray, List.set_cons_zero, List.set_cons_succ] at hK ⊢
                                unfold opStep
                                rw [if_pos (by rfl)]
                                have hdl := HDL.out
                                go_simp
                                exact hK.out _ _ (Below.refl _ _) rfl _ rfl
                              case r2_8 =>
                                intro wq hbw st  K hK
                                have KQ := KW.out.trans (hbw.mono KW.out.size)
                                simp only [Act.put, List.setIfInBounds_toArray, List.set_cons_zero, List.set_cons_succ] at hK ⊢
                                unfold opStep
                                rw [if_pos (by rfl)]
                                go_simp
                                exact hK.out _ _ (Below.refl _ _) rfl _ rfl
                              case r2_9 =>
                                intro wq hbw st  K hK
                                have KQ := KW.out.trans (hbw.mono KW.out.size)
                                simp only [Act.put, List.setIfInBounds_toArray, List.set_cons_zero, List.set_cons_succ] at hK ⊢
                                unfold opStep
                                rw [if_pos (by rfl)]
                                go_simp
                                exact hK.out _ _ (Below.refl _ _) rfl _ rfl
                              case r2_10 =>
                                intro wq hbw st  K hK
                                have KQ := KW.out.trans (hbw.mono KW.out.size)
                                simp only [Act.put, List.setIfInBounds_toArray, List.set_cons_zero, List.set_cons_succ] at hK ⊢
                                unfold opStep
                                rw [if_pos (by rfl)]
                                go_simp
                                exact hK.out _ _ (Below.refl _ _) rfl _ rfl
                              case r2_11 =>
                                intro wq hbw st  K hK
                                have KQ := KW.out.trans (hbw.mono KW.out.size)
                                simp only [Act.put, List.setIfInBounds_toArray, List.set_cons_zero, List.set_cons_succ] at hK ⊢
                                unfold opStep
                                rw [if_pos (by rfl)]
                                go_simp
                                exact hK.out _ _ (Below.refl _ _) rfl _ rfl
                              case r2_12 =>
                                intro wq hbw st  K hK
                                have KQ := KW.out.trans (hbw.mono KW.out.size)
                                simp only [Act.put, List.setIfInBounds_toArray, List.set_cons_zero, List.set_cons_succ] at hK ⊢
                                unfold opStep
                                rw [if_pos (by rfl)]
                                go_simp
                                exact hK.out _ _ (Below.refl _ _) rfl _ rfl
                              case r2_13 =>
                                intro wq hbw st  K hK
                                have KQ := KW.out.trans (hbw.mono KW.out.size)
                                simp only [Act.put, List.setIfInBounds_toArray, List.set_cons_zero, List.set_cons_succ] at hK ⊢
                                unfold opStep
                                rw [if_pos (by rfl)]
                                have dd := Lib.hid (HN.out.1 wq KQ)
                                have d0 := dd.out.1
                                have d1 := dd.out.2.1
                                have d2 := dd.out.2.2.1
                                have d3 := dd.out.2.2.2.1
                                have d4 := dd.out.2.2.2.2.1
                                have d5 := dd.out.2.2.2.2.2
                                go_simp
                                exact hK.out _ _ (Below.refl _ _) rfl _ rfl
                              case r2_14 =>
                                intro wq hbw st  K hK
                                have KQ := KW.out.trans (hbw.mono KW.out.size)
                                simp only [Act.put, List.setIfInBounds_toArray, List.set_cons_zero, List.set_cons_succ] at hK ⊢
                                unfold opStep
                                rw [if_pos (by rfl)]
                                go_simp
                                exact hK.out _ _ (Below.refl _ _) rfl _ rfl
                              case r2_15 =>
                                intro wq hbw st  K hK
                                have KQ := KW.out.trans (hbw.mono KW.out.size)
                                simp only [Act.put, List.setIfInBounds_toArray, List.set_cons_zero, List.set_cons_succ] at hK ⊢
                                unfold opStep
                                rw [if_pos (by rfl)]
                                go_simp
                                exact hK.out _ _ (Below.refl _ _) rfl _ rfl
                              case r2_16 =>
                                intro wq hbw st  K hK
                                have KQ := KW.out.trans (hbw.mono KW.out.size)
                                simp only [Act.put, List.setIfInBounds_toArray, List.set_cons_zero, List.set_cons_succ] at hK ⊢
                                unfold opStep
                                rw [if_pos (by rfl)]
                                go_simp
                                exact hK.out _ _ (Below.refl _ _) rfl _ rfl
                              case r2_17 =>
                                intro wq hbw st  K hK
                                have KQ := KW.out.trans (hbw.mono KW.out.size)
                                simp only [Act.put, List.setIfInBounds_toArray, List.set_cons_zero, List.set_cons_succ] at hK ⊢
                                unfold opStep
                                rw [if_pos (by rfl)]
                                have dd := Lib.hid (HN2.out.1 wq KQ)
                                have d0 := dd.out.1
                                have d1 := dd.out.2.1
                                have d2 := dd.out.2.2.1
                                have d3 := dd.out.2.2.2.1
                                have d4 := dd.out.2.2.2.2.1
                                have d5 := dd.out.2.2.2.2.2
                                go_simp
                                exact hK.out _ _ (Below.refl _ _) rfl _ rfl
                              case r2_18 =>
                                intro wq hbw st  K hK
                                have KQ := KW.out.trans (hbw.mono KW.out.size)
                                simp only [Act.put, List.setIfInBounds_toArray, List.set_cons_zero, List.set_cons_succ] at hK ⊢
                                unfold opStep
                                rw [if_pos (by rfl)]
                                go_simp
                                have hpc := prec_any _ _ o y wq ⟨_, _, rfl, HN.out.2.1.keep KQ, HN.out.2.2.keep KQ⟩ ⟨_, _, rfl, HN2.out.2.1.keep KQ, HN2.out.2.2.keep KQ⟩
                                rw [P1.out] at hpc
                                refine hpc.mono ?_
                                rintro e wz ⟨rfl, hbz⟩
                                go_simp
                                exact hK.out _ _ hbz rfl _ rfl
                              case r2_19 =>
                                intro wq hbw st  K hK
                                have KQ := KW.out.trans (hbw.mono KW.out.size)
                                simp only [Act.put, List.setIfInBounds_toArray, List.set_cons_zero, List.set_cons_succ] at hK ⊢
                                unfold opStep
                                rw [if_pos (by rfl)]
                                go_simp
                                exact hK.out _ _ (Below.refl _ _) rfl _ rfl
                              case r2_fin =>
                                intro wq hbw
                                try simp only [FinAll]
                                simp only [Act.put, List.setIfInBounds_toArray, List.set_cons_zero, List.set_cons_succ]
                                replace KW := Lib.hid (KW.out.trans (hbw.mono KW.out.size))
                                replace HMAP := Lib.hid (HMAP.out.on hbw)
                                clear hbw
                                go_wp2
                                go_roundg (h.length - (z + 1))
                                case measure => have := HM4.out; omega
                                case rel => exact ⟨z + 1, by omega, by go_num, HMAP.out, HG.out, KW.out⟩
                          · have HDL := Lib.hid (decide_eq_false hlt)
                            have HG := Lib.hid (HOKS.out fun _ _ q => absurd q hlt)
                            clear ha hb hlt
                            go_wp2_with (first | (refine wpList_map_ok plcT rfl (.tmp 91) (.tmp 92) rfl gm cnt M (x : Int) rfl HMAP.out rfl HX32.out HVA.out (HIA.out.symm.trans HA.out) ?_) | (refine wpList_map_ok plcT rfl (.tmp 97) (.tmp 98) rfl gm cnt M (z : Int) rfl HMAP.out rfl HZ32.out HVB.out (HIB.out.symm.trans HB.out) ?_) | fail)
                            go_upto_region 27 with fail
                            refine region_left [.is (.bool true), .is (.bool true), .is (.bool true), .is (.bool true), .is (.bool true), .is (.int .i64 pb), .is (.int .i64 pa), .is (.bool false), .is (.bool false), .is (.bool false), .is undef, .is undef, .is undef, .is undef, .is undef, .is undef, .is undef, .is undef, .is undef, .is (.bool false)] (by kernel_rfl) rfl (by kernel_rfl) (by kernel_rfl) (.cons ?r3_0 (.cons ?r3_1 (.cons ?r3_2 (.cons ?r3_3 (.cons ?r3_4 (.cons ?r3_5 (.cons ?r3_6 (.cons ?r3_7 (.cons ?r3_8 (.cons ?r3_9 (.cons ?r3_10 (.cons ?r3_11 (.cons ?r3_12 (.cons ?r3_13 (.cons ?r3_14 (.cons ?r3_15 (.cons ?r3_16 (.cons ?r3_17 (.cons ?r3_18 (.cons ?r3_19 .nil)))))))))))))))))))) ?r3_fin
                            case r3_0 =>
                              intro wq hbw st  K hK
                              have KQ := KW.out.trans (hbw.mono KW.out.size)
                              simp only [Act.put, List.setIfInBounds_toArray, List.set_cons_zero, List.set_cons_succ] at hK ⊢
                              unfold opStep
                              rw [if_pos (by rfl)]
                              go_simp
                              exact hK.out _ _ (Below.refl _ _) rfl _ rfl
                            case r3_1 =>
                              intro wq hbw st  K hK
                              have KQ := KW.out.trans (hbw.mono KW.out.size)
                              simp only [Act.put, List.setIfInBounds_toArray, List.set_cons_zero, List.set_cons_succ] at hK ⊢
                              unfold opStep
                              rw [if_pos (by rfl)]
                              go_simp
                              exact hK.out _ _ (Below.refl _ _) rfl _ rfl
                            case r3_2 =>
                              intro wq hbw st  K hK
                              have KQ := KW.out.trans (hbw.mono KW.out.size)
                              simp only [Act.put, List.setIfInBounds_toArray, List.set_cons_zero, List.set_cons_succ] at hK ⊢
                              unfold opStep
                              rw [if_pos (by rfl)]
                              go_simp
                              exact hK.out _ _ (Below.refl _ _) rfl _ rfl
                            case r3_3 =>
                              intro wq hbw st  K hK
                              have KQ := KW.out.trans (hbw.mono KW.out.size)
                              simp only [Act.put, List.setIfInBounds_toArray, List.set_cons_zero, List.set_cons_succ] at hK ⊢
                              unfold opStep
                              rw [if_pos (by rfl)]
                              go_simp
                              exact hK.out _ _ (Below.refl _ _) rfl _ rfl
                            case r3_4 =>
                              intro wq hbw st  K hK
                              have KQ := KW.out.trans (hbw.mono KW.out.size)
                              simp only [Act.put, List.setIfInBounds_toArray, List.set_cons_zero, List.set_cons_succ] at hK ⊢
                              unfold opStep
                              rw [if_pos (by rfl)]
                              go_simp
                              exact hK.out _ _ (Below.refl _ _) rfl _ rfl
                            case r3_5 =>
                              intro wq hbw st  K hK
                              have KQ := KW.out.trans (hbw.mono KW.out.size)
                              simp only [Act.put, List.setIfInBounds_toArray, List.set_cons_zero, List.set_cons_succ] at hK ⊢
                              unfold opStep
                              rw [if_pos (by rfl)]
                              go_simp
                              exact hK.out _ _ (Below.refl _ _) rfl _ rfl
                            case r3_6 =>
                              intro wq hbw st  K hK
                              have KQ := KW.out.trans (hbw.mono KW.out.size)
                              simp only [Act.put, List.setIfInBounds_toArray, List.set_cons_zero, List.set_cons_succ] at hK ⊢
                              unfold opStep
                              rw [if_pos (by rfl)]
                              go_simp
                              exact hK.out _ _ (Below.refl _ _) rfl _ rfl
                            case r3_7 =>
                              intro wq hbw st  K hK
                              have KQ := KW.out.trans (hbw.mono KW.out.size)
                              simp only [Act.put, List.setIfInBounds_toArray, List.set_cons_zero, List.set_cons_succ] at hK ⊢
                              unfold opStep
                              rw [if_pos (by rfl)]
                              have hdl := HDL.out
                              go_simp
                              exact hK.out _ _ (Below.refl _ _) rfl _ rfl
                            case r3_8 =>
                              intro wq hbw st  K hK
                              have KQ := KW.out.trans (hbw.mono KW.out.size)
                              simp only [Act.put, List.setIfInBounds_toArray, List.set_cons_zero, List.set_cons_succ] at hK ⊢
                              unfold opStep
                              rw [if_pos (by rfl)]
                              go_simp
                              exact hK.out _ _ (Below.refl _ _) rfl _ rfl
                            case r3_9 =>
                              intro wq hbw st  K hK
                              have KQ := KW.out.trans (hbw.mono KW.out.size)
                              simp only [Act.put, List.setIfInBounds_toArray, List.set_cons_zero, List.set_cons_succ] at hK ⊢
                              unfold opStep
                              rw [if_pos (by rfl)]
                              go_simp
                              exact hK.out _ _ (Below.refl _ _) rfl _ rfl
                            case r3_10 =>
                              intro wq hbw st  K hK
                              have KQ := KW.out.trans (hbw.mono KW.out.size)
                              simp only [Act.put, List.setIfInBounds_toArray, List.set_cons_zero, List.set_cons_succ] at hK ⊢
                              unfold opStep
                              rw [if_neg (by change ¬ (false = true); exact Bool.false_ne_true)]
                              exact hK.out _ _ (Below.refl _ _) rfl _ rfl
                            case r3_11 =>
                              intro wq hbw st  K hK
                              have KQ := KW.out.trans (hbw.mono KW.out.size)
                              simp only [Act.put, List.setIfInBounds_toArray, List.set_cons_zero, List.set_cons_succ] at hK ⊢
                              unfold opStep
                              rw [if_neg (by change ¬ (false = true); exact Bool.false_ne_true)]
                              exact hK.out _ _ (Below.refl _ _) rfl _ rfl
                            case r3_12 =>
                              intro wq hbw st  K hK
                              have KQ := KW.out.trans (hbw.mono KW.out.size)
                              simp only [Act.put, List.setIfInBounds_toArray, List.set_cons_zero, List.set_cons_succ] at hK ⊢
                              unfold opStep
                              rw [if_neg (by change ¬ (false = true); exact Bool.false_ne_true)]
                              exact hK.out _ _ (Below.refl _ _) rfl _ rfl
                            case r3_13 =>
                              intro wq hbw st  K hK
                              have KQ := KW.out.trans (hbw.mono KW.out.size)
                              simp only [Act.put, List.setIfInBounds_toArray, List.set_cons_zero, List.set_cons_succ] at hK ⊢
                              unfold opStep
                              rw [if_neg (by change ¬ (false = true); exact Bool.false_ne_true)]
                              exact hK.out _ _ (Below.refl _ _) rfl _ rfl
                            case r3_14 =>
                              intro wq hbw st  K hK
                              have KQ := KW.out.trans (hbw.mono KW.out.size)
                              simp only [Act.put, List.setIfInBounds_toArray, List.set_cons_zero, List.set_cons_succ] at hK ⊢
                              unfold opStep
                              rw [if_neg (by change ¬ (false = true); exact Bool.false_ne_true)]
                              exact hK.out _ _ (Below.refl _ _) rfl _ rfl
                            case r3_15 =>
                              intro wq hbw st  K hK
                              have KQ := KW.out.trans (hbw.mono KW.out.size)
                              simp only [Act.put, List.setIfInBounds_toArray, List.set_cons_zero, List.set_cons_succ] at hK ⊢
                              unfold opStep
                              rw [if_neg (by change ¬ (false = true); exact Bool.false_ne_true)]
                              exact hK.out _ _ (Below.refl _ _) rfl _ rfl
                            case r3_16 =>
                              intro wq hbw st  K hK
                              have KQ := KW.out.trans (hbw.mono KW.out.size)
                              simp only [Act.put, List.setIfInBounds_toArray, List.set_cons_zero, List.set_cons_succ] at hK ⊢
                              unfold opStep
                              rw [if_neg (by change ¬ (false = true); exact Bool.false_ne_true)]
                              exact hK.out _ _ (Below.refl _ _) rfl _ rfl
                            case r3_17 =>
                              intro wq hbw st  K hK
                              have KQ := KW.out.trans (hbw.mono KW.out.size)
                              simp only [Act.put, List.setIfInBounds_toArray, List.set_cons_zero, List.set_cons_succ] at hK ⊢
                              unfold opStep
                              rw [if_neg (by change ¬ (false = true); exact Bool.false_ne_true)]
                              exact hK.out _ _ (Below.refl _ _) rfl _ rfl
                            case r3_18 =>
                              intro wq hbw st  K hK
                              have KQ := KW.out.trans (hbw.mono KW.out.size)
                              simp only [Act.put, List.setIfInBounds_toArray, List.set_cons_zero, List.set_cons_succ] at hK ⊢
                              unfold opStep
                              rw [if_neg (by change ¬ (false = true); exact Bool.false_ne_true)]
                              exact hK.out _ _ (Below.refl _ _) rfl _ rfl
                            case r3_19 =>
                              intro wq hbw st  K hK
                              have KQ := KW.out.trans (hbw.mono KW.out.size)
                              simp only [Act.put, List.setIfInBounds_toArray, List.set_cons_zero, List.set_cons_succ] at hK ⊢
                              unfold opStep
                              rw [if_pos (by rfl)]
                              go_simp
                              exact hK.out _ _ (Below.refl _ _) rfl _ rfl
                            case r3_fin =>
                              intro wq hbw
                              try simp only [FinAll]
                              simp only [Act.put, List.setIfInBounds_toArray, List.set_cons_zero, List.set_cons_succ]
                              replace KW := Lib.hid (KW.out.trans (hbw.mono KW.out.size))
                              replace HMAP := Lib.hid (HMAP.out.on hbw)
                              clear hbw
                              go_wp2
                              go_roundg (h.length - (z + 1))
                              case measure => have := HM4.out; omega
                              case rel => exact ⟨z + 1, by omega, by go_num, HMAP.out, HG.out, KW.out⟩
                        · have HB := Lib.hid (Bool.eq_false_iff.2 hb)
                          have HG := Lib.hid (HOKS.out fun _ q => absurd q hb)
                          clear ha hb
                          go_wp2_with (first | (refine wpList_map_ok plcT rfl (.tmp 91) (.tmp 92) rfl gm cnt M (x : Int) rfl HMAP.out rfl HX32.out HVA.out (HIA.out.symm.trans HA.out) ?_) | (refine wpList_map_ok plcT rfl (.tmp 97) (.tmp 98) rfl gm cnt M (z : Int) rfl HMAP.out rfl HZ32.out HVB.out (HIB.out.symm.trans HB.out) ?_) | fail)
                          go_upto_region 27 with fail
                          refine region_left [.is (.bool true), .is (.bool true), .is (.bool false), .is (.bool false), .is (.bool false), .is undef, .is undef, .is undef, .is (.bool false), .is (.bool false), .is undef, .is undef, .is undef, .is undef, .is undef, .is undef, .is undef, .is undef, .is undef, .is (.bool false)] (by kernel_rfl) rfl (by kernel_rfl) (by kernel_rfl) (.cons ?r4_0 (.cons ?r4_1 (.cons ?r4_2 (.cons ?r4_3 (.cons ?r4_4 (.cons ?r4_5 (.cons ?r4_6 (.cons ?r4_7 (.cons ?r4_8 (.cons ?r4_9 (.cons ?r4_10 (.cons ?r4_11 (.cons ?r4_12 (.cons ?r4_13 (.cons ?r4_14 (.cons ?r4_15 (.cons ?r4_16 (.cons ?r4_17 (.cons ?r4_18 (.cons ?r4_19 .nil)))))))))))))))))))) ?r4_fin
                          case r4_0 =>
                            intro wq hbw st  K hK
                            have KQ := KW.out.trans (hbw.mono KW.out.size)
                            simp only [Act.put, List.setIfInBounds_toArray, List.set_cons_zero, List.set_cons_succ] at hK ⊢
                            unfold opStep
                            rw [if_pos (by rfl)]
                            go_simp
                            exact hK.out _ _ (Below.refl _ _) rfl _ rfl
                          case r4_1 =>
                            intro wq hbw st  K hK
                            have KQ := KW.out.trans (hbw.mono KW.out.size)
                            simp only [Act.put, List.setIfInBounds_toArray, List.set_cons_zero, List.set_cons_succ] at hK ⊢
                            unfold opStep
                            rw [if_pos (by rfl)]
                            go_simp
                            exact hK.out _ _ (Below.refl _ _) rfl _ rfl
                          case r4_2 =>
                            intro wq hbw st  K hK
                            have KQ := KW.out.trans (hbw.mono KW.out.size)
                            simp only [Act.put, List.setIfInBounds_toArray, List.set_cons_zero, List.set_cons_succ] at hK ⊢
                            unfold opStep
                            rw [if_pos (by rfl)]
                            go_simp
                            exact hK.out _ _ (Below.refl _ _) rfl _ rfl
                          case r4_3 =>
                            intro wq hbw st  K hK
                            have KQ := KW.out.trans (hbw.mono KW.out.size)
                            simp only [Act.put, List.setIfInBounds_toArray, List.set_cons_zero, List.set_cons_succ] at hK ⊢
                            unfold opStep
                            rw [if_pos (by rfl)]
                            go_simp
                            exact hK.out _ _ (Below.refl _ _) rfl _ rfl
                          case r4_4 =>
                            intro wq hbw st  K hK
                            have KQ := KW.out.trans (hbw.mono KW.out.size)
                            simp only [Act.put, List.setIfInBounds_toArray, List.set_cons_zero, List.set_cons_succ] at hK ⊢
                            unfold opStep
                            rw [if_pos (by rfl)]
                            go_simp
                            exact hK.out _ _ (Below.refl _ _) rfl _ rfl
                          case r4_5 =>
                            intro wq hbw st  K hK
                            have KQ := KW.out.trans (hbw.mono KW.out.size)
                            simp only [Act.put, List.setIfInBounds_toArray, List.set_cons_zero, List.set_cons_succ] at hK ⊢
                            unfold opStep
                            rw [if_neg (by change ¬ (false = true); exact Bool.false_ne_true)]
                            exact hK.out _ _ (Below.refl _ _) rfl _ rfl
                          case r4_6 =>
                            intro wq hbw st  K hK
                            have KQ := KW.out.trans (hbw.mono KW.out.size)
                            simp only [Act.put, List.setIfInBounds_toArray, List.set_cons_zero, List.set_cons_succ] at hK ⊢
                            unfold opStep
                            rw [if_neg (by change ¬ (false = true); exact Bool.false_ne_true)]
                            exact hK.out _ _ (Below.refl _ _) rfl _ rfl
                          case r4_7 =>
                            intro wq hbw st  K hK
                            have KQ := KW.out.trans (hbw.mono KW.out.size)
                            simp only [Act.put, List.setIfInBounds_toArray, List.set_cons_zero, List.set_cons_succ] at hK ⊢
                            unfold opStep
                            rw [if_neg (by change ¬ (false = true); exact Bool.false_ne_true)]
                            exact hK.out _ _ (Below.refl _ _) rfl _ rfl
                          case r4_8 =>
                            intro wq hbw st  K hK
                            have KQ := KW.out.trans (hbw.mono KW.out.size)
                            simp only [Act.put, List.setIfInBounds_toArray, List.set_cons_zero, List.set_cons_succ] at hK ⊢
                            unfold opStep
                            rw [if_pos (by rfl)]
                            go_simp
                            exact hK.out _ _ (Below.refl _ _) rfl _ rfl
                          case r4_9 =>
                            intro wq hbw st  K hK
                            have KQ := KW.out.trans (hbw.mono KW.out.size)
                            simp only [Act.put, List.setIfInBounds_toArray, List.set_cons_zero, List.set_cons_succ] at hK ⊢
                            unfold opStep
                            rw [if_pos (by rfl)]
                            go_simp
                            exact hK.out _ _ (Below.refl _ _) rfl _ rfl
                          case r4_10 =>
                            intro wq hbw st  K hK
                            have KQ := KW.out.trans (hbw.mono KW.out.size)
                            simp only [Act.put, List.setIfInBounds_toArray, List.set_cons_zero, List.set_cons_succ] at hK ⊢
                            unfold opStep
                            rw [if_neg (by change ¬ (false = true); exact Bool.false_ne_true)]
                            exact hK.out _ _ (Below.refl _ _) rfl _ rfl
                          case r4_11 =>
                            intro wq hbw st  K hK
                            have KQ := KW.out.trans (hbw.mono KW.out.size)
                            simp only [Act.put, List.setIfInBounds_toArray, List.set_cons_zero, List.set_cons_succ] at hK ⊢
                            unfold opStep
                            rw [if_neg (by change ¬ (false = true); exact Bool.false_ne_true)]
                            exact hK.out _ _ (Below.refl _ _) rfl _ rfl
                          case r4_12 =>
                            intro wq hbw st  K hK
                            have KQ := KW.out.trans (hbw.mono KW.out.size)
                            simp only [Act.put, List.setIfInBounds_toArray, List.set_cons_zero, List.set_cons_succ] at hK ⊢
                            unfold opStep
                            rw [if_neg (by change ¬ (false = true); exact Bool.false_ne_true)]
                            exact hK.out _ _ (Below.refl _ _) rfl _ rfl
                          case r4_13 =>
                            intro wq hbw st  K hK
                            have KQ := KW.out.trans (hbw.mono KW.out.size)
                            simp only [Act.put, List.setIfInBounds_toArray, List.set_cons_zero, List.set_cons_succ] at hK ⊢
                            unfold opStep
                            rw [if_neg (by change ¬ (false = true); exact Bool.false_ne_true)]
                            exact hK.out _ _ (Below.refl _ _) rfl _ rfl
                          case r4_14 =>
                            intro wq hbw st  K hK
                            have KQ := KW.out.trans (hbw.mono KW.out.size)
                            simp only [Act.put, List.setIfInBounds_toArray, List.set_cons_zero, List.set_cons_succ] at hK ⊢
                            unfold opStep
                            rw [if_neg (by change ¬ (false = true); exact Bool.false_ne_true)]
                            exact hK.out _ _ (Below.refl _ _) rfl _ rfl
                          case r4_15 =>
                            intro wq hbw st  K hK
                            have KQ := KW.out.trans (hbw.mono KW.out.size)
                            simp only [Act.put, List.setIfInBounds_toArray, List.set_cons_zero, List.set_cons_succ] at hK ⊢
                            unfold opStep
                            rw [if_neg (by change ¬ (false = true); exact Bool.false_ne_true)]
                            exact hK.out _ _ (Below.refl _ _) rfl _ rfl
                          case r4_16 =>
                            intro wq hbw st  K hK
                            have KQ := KW.out.trans (hbw.mono KW.out.size)
                            simp only [Act.put, List.setIfInBounds_toArray, List.set_cons_zero, List.set_cons_succ] at hK ⊢
                            unfold opStep
                            rw [if_neg (by change ¬ (false = true); exact Bool.false_ne_true)]
                            exact hK.out _ _ (Below.refl _ _) rfl _ rfl
                          case r4_17 =>
                            intro wq hbw st  K hK
                            have KQ := KW.out.trans (hbw.mono KW.out.size)
                            simp only [Act.put, List.setIfInBounds_toArray, List.set_cons_zero, List.set_cons_succ] at hK ⊢
                            unfold opStep
                            rw [if_neg (by change ¬ (false = true); exact Bool.false_ne_true)]
                            exact hK.out _ _ (Below.refl _ _) rfl _ rfl
                          case r4_18 =>
                            intro wq hbw st  K hK
                            have KQ := KW.out.trans (hbw.mono KW.out.size)
                            simp only [Act.put, List.setIfInBounds_toArray, List.set_cons_zero, List.set_cons_succ] at hK ⊢
                            unfold opStep
                            rw [if_neg (by change ¬ (false = true); exact Bool.false_ne_true)]
                            exact hK.out _ _ (Below.refl _ _) rfl _ rfl
                          case r4_19 =>
                            intro wq hbw st  K hK
                            have KQ := KW.out.trans (hbw.mono KW.out.size)
                            simp only [Act.put, List.setIfInBounds_toArray, List.set_cons_zero, List.set_cons_succ] at hK ⊢
                            unfold opStep
                            rw [if_pos (by rfl)]
                            go_simp
                            exact hK.out _ _ (Below.refl _ _) rfl _ rfl
                          case r4_fin =>
                            intro wq hbw
                            try simp only [FinAll]
                            simp only [Act.put, List.setIfInBounds_toArray, List.set_cons_zero, List.set_cons_succ]
                            replace KW := Lib.hid (KW.out.trans (hbw.mono KW.out.size))
                            replace HMAP := Lib.hid (HMAP.out.on hbw)
                            clear hbw
                            go_wp2
                            go_roundg (h.length - (z + 1))
                            case measure => have := HM4.out; omega
                            case rel => exact ⟨z + 1, by omega, by go_num, HMAP.out, HG.out, KW.out⟩
                      · have HA := Lib.hid (Bool.eq_false_iff.2 ha)
                        have HB : Hid (ib = ib) := Lib.hid rfl
                        have HG := Lib.hid (HOKS.out fun q => absurd q ha)
                        clear ha
                        go_wp2_with (first | (refine wpList_map_ok plcT rfl (.tmp 91) (.tmp 92) rfl gm cnt M (x : Int) rfl HMAP.out rfl HX32.out HVA.out (HIA.out.symm.trans HA.out) ?_) | (refine wpList_map_ok plcT rfl (.tmp 97) (.tmp 98) rfl gm cnt M (z : Int) rfl HMAP.out rfl HZ32.out HVB.out (HIB.out.symm.trans HB.out) ?_) | fail)
                        go_upto_region 27 with fail
                        refine region_left [.is (.bool false), .is (.bool false), .is undef, .is (.bool false), .is (.bool false), .is undef, .is undef, .is undef, .is (.bool false), .is (.bool false), .is undef, .is undef, .is undef, .is undef, .is undef, .is undef, .is undef, .is undef, .is undef, .is (.bool false)] (by kernel_rfl) rfl (by kernel_rfl) (by kernel_rfl) (.cons ?r5_0 (.cons ?r5_1 (.cons ?r5_2 (.cons ?r5_3 (.cons ?r5_4 (.cons ?r5_5 (.cons ?r5_6 (.cons ?r5_7 (.cons ?r5_8 (.cons ?r5_9 (.cons ?r5_10 (.cons ?r5_11 (.cons ?r5_12 (.cons ?r5_13 (.cons ?r5_14 (.cons ?r5_15 (.cons ?r5_16 (.cons ?r5_17 (.cons ?r5_18 (.cons ?r5_19 .nil)))))))))))))))))))) ?r5_fin
                        case r5_0 =>
                          intro wq hbw st  K hK
                          have KQ := KW.out.trans (hbw.mono KW.out.size)
                          simp only [Act.put, List.setIfInBounds_toArray, List.set_cons_zero, List.set_cons_succ] at hK ⊢
                          unfold opStep
                          rw [if_pos (by rfl)]
                          go_simp
                          exact hK.out _ _ (Below.refl _ _) rfl _ rfl
                        case r5_1 =>
                          intro wq hbw st  K hK
                          have KQ := KW.out.trans (hbw.mono KW.out.size)
                          simp only [Act.put, List.setIfInBounds_toArray, List.set_cons_zero, List.set_cons_succ] at hK ⊢
                          unfold opStep
                          rw [if_pos (by rfl)]
                          go_simp
                          exact hK.out _ _ (Below.refl _ _) rfl _ rfl
                        case r5_2 =>
                          intro wq hbw st  K hK
                          have KQ := KW.out.trans (hbw.mono KW.out.size)
                          simp only [Act.put, List.setIfInBounds_toArray, List.set_cons_zero, List.set_cons_succ] at hK ⊢
                          unfold opStep
                          rw [if_neg (by change ¬ (false = true); exact Bool.false_ne_true)]
                          exact hK.out _ _ (Below.refl _ _) rfl _ rfl
                        case r5_3 =>
                          intro wq hbw st  K hK
                          have KQ := KW.out.trans (hbw.mono KW.out.size)
                          simp only [Act.put, List.setIfInBounds_toArray, List.set_cons_zero, List.set_cons_succ] at hK ⊢
                          unfold opStep
                          rw [if_pos (by rfl)]
                          go_simp
                          exact hK.out _ _ (Below.refl _ _) rfl _ rfl
                        case r5_4 =>
                          intro wq hbw st  K hK
                          have KQ := KW.out.trans (hbw.mono KW.out.size)
                          simp only [Act.put, List.setIfInBounds_toArray, List.set_cons_zero, List.set_cons_succ] at hK ⊢
                          unfold opStep
                          rw [if_pos (by rfl)]
                          go_simp
                          exact hK.out _ _ (Below.refl _ _) rfl _ rfl
                        case r5_5 =>
                          intro wq hbw st  K hK
                          have KQ := KW.out.trans (hbw.mono KW.out.size)
                          simp only [Act.put, List.setIfInBounds_toArray, List.set_cons_zero, List.set_cons_succ] at hK ⊢
                          unfold opStep
                          rw [if_neg (by change ¬ (false = true); exact Bool.false_ne_true)]
                          exact hK.out _ _ (Below.refl _ _) rfl _ rfl
                        case r5_6 =>
                          intro wq hbw st  K hK
                          have KQ := KW.out.trans (hbw.mono KW.out.size)
                          simp only [Act.put, List.setIfInBounds_toArray, List.set_cons_zero, List.set_cons_succ] at hK ⊢
                          unfold opStep
                          rw [if_neg (by change ¬ (false = true); exact Bool.false_ne_true)]
                          exact hK.out _ _ (Below.refl _ _) rfl _ rfl
                        case r5_7 =>
                          intro wq hbw st  K hK
                          have KQ := KW.out.trans (hbw.mono KW.out.size)
                          simp only [Act.put, List.setIfInBounds_toArray, List.set_cons_zero, List.set_cons_succ] at hK ⊢
                          unfold opStep
                          rw [if_neg (by change ¬ (false = true); exact Bool.false_ne_true)]
                          exact hK.out _ _ (Below.refl _ _) rfl _ rfl
                        case r5_8 =>
                          intro wq hbw st  K hK
                          have KQ := KW.out.trans (hbw.mono KW.out.size)
                          simp only [Act.put, List.setIfInBounds_toArray, List.set_cons_zero, List.set_cons_succ] at hK ⊢
                          unfold opStep
                          rw [if_pos (by rfl)]
                          go_simp
                          exact hK.out _ _ (Below.refl _ _) rfl _ rfl
                        case r5_9 =>
                          intro wq hbw st  K hK
                          have KQ := KW.out.trans (hbw.mono KW.out.size)
                          simp only [Act.put, List.setIfInBounds_toArray, List.set_cons_zero, List.set_cons_succ] at hK ⊢
                          unfold opStep
                          rw [if_pos (by rfl)]
                          go_simp
                          exact hK.out _ _ (Below.refl _ _) rfl _ rfl
                        case r5_10 =>
                          intro wq hbw st  K hK
                          have KQ := KW.out.trans (hbw.mono KW.out.size)
                          simp only [Act.put, List.setIfInBounds_toArray, List.set_cons_zero, List.set_cons_succ] at hK ⊢
                          unfold opStep
                          rw [if_neg (by change ¬ (false = true); exact Bool.false_ne_true)]
                          exact hK.out _ _ (Below.refl _ _) rfl _ rfl
                        case r5_11 =>
                          intro wq hbw st  K hK
                          have KQ := KW.out.trans (hbw.mono KW.out.size)
                          simp only [Act.put, List.setIfInBounds_toArray, List.set_cons_zero, List.set_cons_succ] at hK ⊢
                          unfold opStep
                          rw [if_neg (by change ¬ (false = true); exact Bool.false_ne_true)]
                          exact hK.out _ _ (Below.refl _ _) rfl _ rfl
                        case r5_12 =>
                          intro wq hbw st  K hK
                          have KQ := KW.out.trans (hbw.mono KW.out.size)
                          simp only [Act.put, List.setIfInBounds_toArray, List.set_cons_zero, List.set_cons_succ] at hK ⊢
                          unfold opStep
                          rw [if_neg (by change ¬ (false = true); exact Bool.false_ne_true)]
                          exact hK.out _ _ (Below.refl _ _) rfl _ rfl
                        case r5_13 =>
                          intro wq hbw st  K hK
                          have KQ := KW.out.trans (hbw.mono KW.out.size)
                          simp only [Act.put, List.setIfInBounds_toArray, List.set_cons_zero, List.set_cons_succ] at hK ⊢
                          unfold opStep
                          rw [if_neg (by change ¬ (false = true); exact Bool.false_ne_true)]
                          exact hK.out _ _ (Below.refl _ _) rfl _ rfl
                        case r5_14 =>
                          intro wq hbw st  K hK
                          have KQ := KW.out.trans (hbw.mono KW.out.size)
                          simp only [Act.put, List.setIfInBounds_toArray, List.set_cons_zero, List.set_cons_succ] at hK ⊢
                          unfold opStep
                          rw [if_neg (by change ¬ (false = true); exact Bool.false_ne_true)]
                          exact hK.out _ _ (Below.refl _ _) rfl _ rfl
                        case r5_15 =>
                          intro wq hbw st  K hK
                          have KQ := KW.out.trans (hbw.mono KW.out.size)
                          simp only [Act.put, List.setIfInBounds_toArray, List.set_cons_zero, List.set_cons_succ] at hK ⊢
                          unfold opStep
                          rw [if_neg (by change ¬ (false = true); exact Bool.false_ne_true)]
                          exact hK.out _ _ (Below.refl _ _) rfl _ rfl
                        case r5_16 =>
                          intro wq hbw st  K hK
                          have KQ := KW.out.trans (hbw.mono KW.out.size)
                          simp only [Act.put, List.setIfInBounds_toArray, List.set_cons_zero, List.set_cons_succ] at hK ⊢
                          unfold opStep
                          rw [if_neg (by change ¬ (false = true); exact Bool.false_ne_true)]
                          exact hK.out _ _ (Below.refl _ _) rfl _ rfl
                        case r5_17 =>
                          intro wq hbw st  K hK
                          have KQ := KW.out.trans (hbw.mono KW.out.size)
                          simp only [Act.put, List.setIfInBounds_toArray, List.set_cons_zero, List.set_cons_succ] at hK ⊢
                          unfold opStep
                          rw [if_neg (by change ¬ (false = true); exact Bool.false_ne_true)]
                          exact hK.out _ _ (Below.refl _ _) rfl _ rfl
                        case r5_18 =>
                          intro wq hbw st  K hK
                          have KQ := KW.out.trans (hbw.mono KW.out.size)
                          simp only [Act.put, List.setIfInBounds_toArray, List.set_cons_zero, List.set_cons_succ] at hK ⊢
                          unfold opStep
                          rw [if_neg (by change ¬ (false = true); exact Bool.false_ne_true)]
                          exact hK.out _ _ (Below.refl _ _) rfl _ rfl
                        case r5_19 =>
                          intro wq hbw st  K hK
                          have KQ := KW.out.trans (hbw.mono KW.out.size)
                          simp only [Act.put, List.setIfInBounds_toArray, List.set_cons_zero, List.set_cons_succ] at hK ⊢
                          unfold opStep
                          rw [if_pos (by rfl)]
                          go_simp
                          exact hK.out _ _ (Below.refl _ _) rfl _ rfl
                        case r5_fin =>
                          intro wq hbw
                          try simp only [FinAll]
                          simp only [Act.put, List.setIfInBounds_toArray, List.set_cons_zero, List.set_cons_succ]
                          replace KW := Lib.hid (KW.out.trans (hbw.mono KW.out.size))
                          replace HMAP := Lib.hid (HMAP.out.on hbw)
                          clear hbw
                          go_wp2
                          go_roundg (h.length - (z + 1))
                          case measure => have := HM4.out; omega
                          case rel => exact ⟨z + 1, by omega, by go_num, HMAP.out, HG.out, KW.out⟩
                    · have hzx : ¬ (z : Int) < h.length := by omega
                      have HNXT : Hid (∀ i k : Nat, i < x + 1 → k < h.length → OkIK h M i k) := Lib.hid fun i k hi hk => by
                        by_cases e : i = x
                        · subst e; exact HROW.out k (by omega)
                        · exact HALL.out i k (by omega) hk
                      go_wp2
                      go_roundg (h.length - (x + 1))
                      case measure => have := HM3.out; omega
                      case rel => exact ⟨x + 1, by omega, by go_num, HMAP.out, HNXT.out, KW.out⟩
                · have hxx : ¬ (x : Int) < h.length := by omega
                  have HE : Hid (res = true) := Lib.hid (HRES.out.2 ⟨H0.out, HLG.out, HKI.out, HAL2.out, fun a b i k ha hb hab => by
                    have h1 := HLO.out.1 _ (List.mem_of_getElem? ha)
                    have h2 := HLO.out.1 _ (List.mem_of_getElem? hb)
                    have la := (List.getElem?_eq_some_iff.1 ha).1
                    have lb := (List.getElem?_eq_some_iff.1 hb).1
                    exact HALL.out i k (by omega) (by omega) a b ((HNP.out _ _).2 ⟨a, by rw [HCT.out]; exact la, ha, rfl⟩) ((HNP.out _ _).2 ⟨b, by rw [HCT.out]; exact lb, hb, rfl⟩) (by omega)⟩)
                  go_wp2
                  go_ret
                  exact ⟨ret_bool HE.out.symm, KW.out⟩
    · have HE := Lib.hid (HNO.out fun hv => hleg hv.2.1)
      rw [Bool.eq_false_iff.2 hleg]
      clear hleg
      go_wp2
      go_ret
      exact ⟨ret_bool HE.out.symm, KW2.out⟩
  · have HE := Lib.hid (HNO.out fun hv => h0 hv.1)
    have e0 := bne_t h0
    clear h0
    go_wp2
    go_ret
    exact ⟨ret_bool HE.out.symm, KW1.out⟩
end Go.Proofs.YtjijlhjggpibjaaGreat
