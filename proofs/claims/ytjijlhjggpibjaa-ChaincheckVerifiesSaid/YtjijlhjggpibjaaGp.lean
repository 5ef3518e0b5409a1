/-
  Chapter 55: places of the reference.
-/
import Derived.Test.YtjijlhjggpibjaaGm
import Derived.Laws.MakeOwn
namespace Go.Proofs.Ytjijlhjggpibjaa
open Go.RowKit

/-- A row of ints as a function. -/
def cellsF (n : Nat) (f : Nat → Int) : Array Value := ((List.range n).map fun i => vi (f i)).toArray
def listF (n : Nat) (f : Nat → Int) : List Int := (List.range n).map f
theorem cellsF_list (n : Nat) (f : Nat → Int) : cellsF n f = ((listF n f).map vi).toArray := by unfold cellsF listF; rw [List.map_map]; rfl
theorem listF_len (n : Nat) (f : Nat → Int) : (listF n f).length = n := by unfold listF; simp
theorem cellsF_at {n i : Nat} {f : Nat → Int} (h : i < n) : (cellsF n f)[i]? = some (.int .i64 (f i)) := by unfold cellsF; simp [h]; rfl
theorem cellsF_set {n k : Nat} {f : Nat → Int} (_ : k < n) (x : Int) : (cellsF n f).setIfInBounds k (.int .i64 x) = cellsF n (fun i => if i = k then x else f i) := by
  apply Array.ext
  · simp [cellsF]
  · intro j h1 h2
    have hj : j < n := by simpa [cellsF] using h2
    rw [Array.getElem_setIfInBounds (by simpa [cellsF] using hj)]
    by_cases e : k = j
    · subst e; simp [cellsF, vi]
    · rw [if_neg e]
      have : ¬ j = k := fun q => e q.symm
      simp [cellsF, this]
theorem cellsF_congr {n : Nat} {f g : Nat → Int} (h : ∀ i, i < n → f i = g i) : cellsF n f = cellsF n g := by
  unfold cellsF
  congr 1
  refine List.map_congr_left fun i hi => ?_
  rw [h i (List.mem_range.1 hi)]
/-- The position before j of an index. -/
def posK (is : List Int) : Nat → Nat → Int
  | 0, _ => -1
  | j + 1, x => if is[j]? = some (x : Int) then (j : Int) else posK is j x
theorem posK_cases (is : List Int) : ∀ j x, posK is j x = -1 ∨ ∃ j', j' < j ∧ is[j']? = some (x : Int) ∧ posK is j x = (j' : Int)
  | 0, x => .inl rfl
  | j + 1, x => by
    unfold posK
    by_cases e : is[j]? = some (x : Int)
    · rw [if_pos e]; exact .inr ⟨j, by omega, e, rfl⟩
    · rw [if_neg e]
      rcases posK_cases is j x with h | ⟨j', h1, h2, h3⟩
      · exact .inl h
      · exact .inr ⟨j', by omega, h2, h3⟩
theorem posK_in {is : List Int} {j x j' : Nat} (hj : j' < j) (h : is[j']? = some (x : Int)) : 0 ≤ posK is j x := by
  induction j with
  | zero => omega
  | succ j ih =>
    unfold posK
    by_cases e : is[j]? = some (x : Int)
    · rw [if_pos e]; omega
    · rw [if_neg e]
      have : ¬ j' = j := by rintro rfl; exact e h
      exact ih (by omega)
theorem posK_iff {is : List Int} {j x : Nat} : 0 ≤ posK is j x ↔ ∃ j', j' < j ∧ is[j']? = some (x : Int) := by
  constructor
  · intro h
    rcases posK_cases is j x with h1 | ⟨j', h1, h2, _⟩
    · omega
    · exact ⟨j', h1, h2⟩
  · rintro ⟨j', h1, h2⟩
    exact posK_in h1 h2
theorem posK_le {is : List Int} {j x : Nat} : -1 ≤ posK is j x ∧ posK is j x < j := by
  rcases posK_cases is j x with h | ⟨j', h1, _, h3⟩
  · omega
  · omega
/-- What places asks of the order. -/
structure PlOk (h : List Opn) (is : List Int) : Prop where
  lt : ∀ j (hj : j < is.length), 0 ≤ is[j] ∧ is[j] < h.length
  kind : ∀ j (hj : j < is.length), UpI h is[j].toNat ∨ RdI h is[j].toNat
  one : ∀ j (hj : j < is.length), ∀ j', j' < j → is[j']? ≠ some is[j]
  all : ∀ i, i < h.length → 0 ≤ endO (nth h i) → 0 ≤ posK is is.length i
def PlMade (W : World) (h : List Opn) (is : List Int) (e : Ending) (w' : World) : Prop :=
  Below W.heap.size W w' ∧ ((PlOk h is ∧ ∃ v, e = .returned (.tuple #[v, .bool true]) ∧ Reads vi w' v (listF h.length (posK is is.length))) ∨ (¬ PlOk h is ∧ e = .returned (.tuple #[.slice none 0 0, .bool false])))
theorem pl_no {W w' : World} {h : List Opn} {is : List Int} (hn : ¬ PlOk h is) (hb : Below W.heap.size W w') : PlMade W h is (.returned (.tuple #[.slice none 0 0, .bool false])) w' := ⟨hb, .inr ⟨hn, rfl⟩⟩
theorem pl_yes {W w' : World} {h : List Opn} {is : List Int} {v : Value} (hy : PlOk h is) (hr : Reads vi w' v (listF h.length (posK is is.length))) (hb : Below W.heap.size W w') : PlMade W h is (.returned (.tuple #[v, .bool true])) w' := ⟨hb, .inl ⟨hy, v, rfl, hr⟩⟩
theorem madeZ (n : Nat) : madeCells #[.int .i64 0] n = cellsF n fun _ => 0 := by
  apply Array.ext
  · simp [madeCells, cellsF]
  · intro j h1 h2
    simp [madeCells, cellsF, vi, Nat.mod_one]

set_option maxRecDepth 100000 in
set_option maxHeartbeats 16000000 in
theorem places_any (v u : Value) (h : List Opn) (is : List Int) (W : World) (hr : ReadsO W v h) (hq : Reads vi W u is) (hs : SmallH h) (hi : is.length ≤ 1000) : Calls Try.prog 42 #[v, u] W (PlMade W h is) := by
  obtain ⟨i0, hinf, hz0, hz1, hz2⟩ := info_parts Try.infoInt1
  have HR := Lib.hid hr
  have HQ := Lib.hid hq
  have hn := hs.1
  obtain ⟨ao, cap, rfl, hl, hm, -, -⟩ := hr
  unfold maxLen at hm
  obtain ⟨qa, qk, rfl, hqk, hql⟩ := slcI hq
  clear hs hq
  have hmk : (Instr.makeSlice 25 (.int .i64 (h.length : Int)) (.int .i64 (h.length : Int))).run Try.prog W = .ok (.slice (some ⟨W.heap.size, 0, none⟩) h.length h.length) (W.alloc (.cells (cellsF h.length fun _ => 0) 3)) := by
    have h0 := run_make (P := Try.prog) W 25 3 i0 (.int .i64 0) Try.underlying25 hinf hz0 .i64 .i64 (h.length : Int) (h.length : Int) (by omega) (Int.le_refl _) (by rw [hz2]; omega) (by omega)
    have e : ((h.length : Nat) : Int).toNat = h.length := by omega
    rw [e] at h0
    have e2 : madeCells (Value.int .i64 0).cells (h.length * i0.size) = cellsF h.length fun _ => 0 := by rw [hz1, Nat.mul_one]; exact madeZ _
    rw [e2] at h0
    exact h0
  clear hinf hz0 hz1 hz2
  have HB0 := Lib.hid (Blk.new W 3 (cellsF h.length fun _ => 0))
  have KB0 : Hid (Below W.heap.size W (W.alloc (.cells (cellsF h.length fun _ => 0) 3))) := Lib.hid ((Below.refl _ _).alloc (Nat.le_refl _) _)
  go_enter Try.func42, Try.ntmps42
  go_wp2
  clear hmk
  go_loopg [7] h.length (fun m i wr => ∃ k : Nat, m + k = h.length ∧ i = .int .i64 ((k : Nat) : Int) ∧ Blk wr W.heap.size 3 (cellsF h.length fun x => if x < k then -1 else 0) ∧ Below W.heap.size W wr)
  case atStart => exact ⟨0, by omega, rfl, by rw [cellsF_congr (g := fun _ => 0) (fun i _ => if_neg (by omega))]; exact HB0.out, KB0.out⟩
  case round =>
    clear HB0 KB0
    obtain ⟨k, hmk, rfl, hblk, hbel⟩ := hrel
    have HM := Lib.hid hmk
    have HB := Lib.hid hblk
    have KW := Lib.hid hbel
    have hk : k ≤ h.length := by omega
    clear hmk hblk hbel
    by_cases hlt : k < h.length
    · have hki : (k : Int) < h.length := by omega
      have hk0 : (0 : Int) ≤ (k : Int) := by omega
      have x0 : wr.cell? ⟨W.heap.size, k, none⟩ = some (.int .i64 (if k < k then -1 else 0)) := (HB.out.cell k).trans (cellsF_at hlt)
      have f0 := HB.out.frozen k
      have HN : Hid (Blk (wr.setCell ⟨W.heap.size, k, none⟩ (.int .i64 (-1))) W.heap.size 3 (cellsF h.length fun x => if x < k + 1 then -1 else 0)) := Lib.hid (by
        have h1 := HB.out.set_ k (.int .i64 (-1))
        rw [cellsF_set hlt] at h1
        rw [cellsF_congr (g := fun i => if i = k then -1 else if i < k then -1 else 0) (fun i _ => by
          by_cases e : i = k
          · rw [if_pos e, if_pos (by omega)]
          · rw [if_neg e]
            by_cases e2 : i < k
            · rw [if_pos e2, if_pos (by omega)]
            · rw [if_neg e2, if_neg (by omega)])]
        exact h1)
      have KN : Hid (Below W.heap.size W (wr.setCell ⟨W.heap.size, k, none⟩ (.int .i64 (-1)))) := Lib.hid (KW.out.setCell (p := ⟨W.heap.size, k, none⟩) (Nat.le_refl _) _)
      clear hlt
      go_wp2
      go_roundg (h.length - (k + 1))
      case measure => have := HM.out; omega
      case rel => exact ⟨k + 1, by omega, by go_num, HN.out, KN.out⟩
    · have hkk : k = h.length := by omega
      have HB1 : Hid (Blk wr W.heap.size 3 (cellsF h.length (posK is 0))) := Lib.hid (by
        rw [cellsF_congr (g := fun x => if x < k then -1 else 0) (fun i hi => by rw [if_pos (by omega)]; rfl)]
        exact HB.out)
      clear HB HM hkk
      go_wp2
      obtain ⟨wo, hwo⟩ : ∃ x, x = wr := ⟨_, rfl⟩
      rw [← hwo] at HB1 KW ⊢
      clear hwo
      obtain ⟨G2, hG2⟩ : ∃ G, G = gk := ⟨_, rfl⟩
      subst hG2
      go_loopg [8] is.length (fun m i wr => ∃ j : Nat, m + j = is.length ∧ i = .int .i64 ((j : Nat) : Int) ∧ Blk wr W.heap.size 3 (cellsF h.length (posK is j)) ∧ Below W.heap.size W wr ∧ (∀ j' (hj : j' < is.length), j' < j → (0 ≤ is[j'] ∧ is[j'] < h.length) ∧ (UpI h is[j'].toNat ∨ RdI h is[j'].toNat) ∧ ∀ q, q < j' → is[q]? ≠ some is[j']))
      case atStart => exact ⟨0, by omega, rfl, HB1.out, KW.out, fun j' hj hj0 => by omega⟩
      case round =>
        clear HB1 KW
        obtain ⟨j, hmj, rfl, hblk, hbel, hall⟩ := hrel
        have HM := Lib.hid hmj
        have HB := Lib.hid hblk
        have KW := Lib.hid hbel
        have HALL := Lib.hid hall
        have hj : j ≤ is.length := by omega
        clear hmj hblk hbel hall
        by_cases hjl : j < is.length
        · obtain ⟨bo, oo, co, hv, hbo, hco⟩ := int_at (HQ.out.keep KW.out) hjl
          injection hv with e1 e2 e3
          subst e1
          have hji : (j : Int) < is.length := by omega
          have hj0 : (0 : Int) ≤ (j : Int) := by omega
          have q0 := hco
          unfold vi at q0
          have HNO : Hid (PlOk h is → (0 ≤ is[j] ∧ is[j] < h.length) ∧ (UpI h is[j].toNat ∨ RdI h is[j].toNat) ∧ ∀ q, q < j → is[q]? ≠ some is[j]) := Lib.hid fun hp => ⟨hp.lt j hjl, hp.kind j hjl, hp.one j hjl⟩
          have HYES : Hid ((0 ≤ is[j] ∧ is[j] < h.length) ∧ (UpI h is[j].toNat ∨ RdI h is[j].toNat) ∧ (∀ q, q < j → is[q]? ≠ some is[j]) → ∀ j' (hj : j' < is.length), j' < j + 1 → (0 ≤ is[j'] ∧ is[j'] < h.length) ∧ (UpI h is[j'].toNat ∨ RdI h is[j'].toNat) ∧ ∀ q, q < j' → is[q]? ≠ some is[j']) := Lib.hid fun hp j' hj' hlt => by
            by_cases e : j' = j
            · subst e; exact hp
            · exact HALL.out j' hj' (by omega)
          have HPK : Hid (∀ x : Nat, posK is (j + 1) x = if is[j] = (x : Int) then (j : Int) else posK is j x) := Lib.hid fun x => by
            show (if is[j]? = some (x : Int) then (j : Int) else posK is j x) = _
            rw [List.getElem?_eq_getElem hjl]
            by_cases e : is[j] = (x : Int)
            · rw [if_pos e, if_pos (by rw [e])]
            · rw [if_neg e, if_neg (fun q => e (by injection q))]
          clear e2 e3 hco hbo
          generalize is[j] = x at *
          clear hjl
          by_cases hx0 : x < 0
          · have hd := decide_eq_true hx0
            have HNP : Hid (¬ PlOk h is) := Lib.hid fun hp => by have := (HNO.out hp).1.1; omega
            clear hx0
            go_wp2
            go_ret2
            exact pl_no HNP.out KW.out
          · have hd := decide_eq_false hx0
            by_cases hxn : (h.length : Int) ≤ x
            · have hd2 := decide_eq_true hxn
              have HNP : Hid (¬ PlOk h is) := Lib.hid fun hp => by have := (HNO.out hp).1.2; omega
              clear hx0 hxn
              go_wp2
              go_ret2
              exact pl_no HNP.out KW.out
            · have hd2 := decide_eq_false hxn
              obtain ⟨y, rfl⟩ := Int.eq_ofNat_of_zero_le (show 0 ≤ x by omega)
              have hyn : y < h.length := by omega
              have hyi : (y : Int) < h.length := by omega
              have hy0 : (0 : Int) ≤ (y : Int) := by omega
              have x0 : wr.cell? ⟨W.heap.size, y, none⟩ = some (.int .i64 (posK is j y)) := (HB.out.cell y).trans (cellsF_at hyn)
              have f0 := HB.out.frozen y
              clear hx0 hxn
              by_cases hp : 0 ≤ posK is j y
              · have hd3 := decide_eq_true hp
                have HNP : Hid (¬ PlOk h is) := Lib.hid fun hq => by
                  obtain ⟨j', h1, h2⟩ := posK_iff.1 hp
                  exact (HNO.out hq).2.2 j' h1 h2
                clear hp
                go_wp2
                go_ret2
                exact pl_no HNP.out KW.out
              · have hd3 := decide_eq_false hp
                have HONE : Hid (∀ q, q < j → is[q]? ≠ some (y : Int)) := Lib.hid fun q hq he => hp (posK_in hq he)
                obtain ⟨b2, off, cap1, a4, c4, a5, c5, hv, _, _, hm4, hm5, hl4, hl5, hcell, r1, r2⟩ := HR.out.at2 hyn
                injection hv with e1 e2 e3
                subst e1
                have dd := Lib.hid (hcell wr KW.out)
                have d0 := dd.out.1
                have d1 := dd.out.2.1
                have d2 := dd.out.2.2.1
                have d3 := dd.out.2.2.2.1
                have d4 := dd.out.2.2.2.2.1
                have d5 := dd.out.2.2.2.2.2
                have HUD : Hid (upO h[y] = decide (UpI h y)) := Lib.hid (by rw [← nth_eq hyn]; rfl)
                have HRD : Hid (rdO h[y] = decide (RdI h y)) := Lib.hid (by rw [← nth_eq hyn]; rfl)
                have HOP : Hid (∀ wq, Below W.heap.size W wq → OpAt wq (.agg #[.int .i64 (cliO h[y]), .int .i64 (kindO h[y]), .int .i64 (begO h[y]), .int .i64 (endO h[y]), .slice a4 (addO h[y]).length c4, .slice a5 (seeO h[y]).length c5]) h[y]) := Lib.hid fun wq hq => ⟨_, _, rfl, r1.keep hq, r2.keep hq⟩
                have HDC : Hid (∀ wq, Below W.heap.size W wq → wq.cell? ⟨b2, off + y * 6, none⟩ = some (.int .i64 (cliO h[y])) ∧ wq.cell? ⟨b2, off + y * 6 + 1, none⟩ = some (.int .i64 (kindO h[y])) ∧ wq.cell? ⟨b2, off + y * 6 + 2, none⟩ = some (.int .i64 (begO h[y])) ∧
      wq.cell? ⟨b2, off + y * 6 + 3, none⟩ = some (.int .i64 (endO h[y])) ∧ wq.cell? ⟨b2, off + y * 6 + 4, none⟩ = some (.slice a4 (addO h[y]).length c4) ∧ wq.cell? ⟨b2, off + y * 6 + 5, none⟩ = some (.slice a5 (seeO h[y]).length c5)) := Lib.hid hcell
                have HYN := Lib.hid (And.intro hyn trivial)
                clear e2 e3 hcell r1 r2 dd hm4 hm5 hl4 hl5 hp
                generalize h[y] = o at *
                generalize hpq : posK is j y = pq at *
                clear hyn
                have HPUT : Hid (UpI h y ∨ RdI h y → ∀ wq, Below wr.heap.size wr wq → Blk (wq.setCell ⟨W.heap.size, y, none⟩ (.int .i64 (j : Int))) W.heap.size 3 (cellsF h.length (posK is (j + 1))) ∧ Below W.heap.size W (wq.setCell ⟨W.heap.size, y, none⟩ (.int .i64 (j : Int))) ∧ wq.cell? ⟨W.heap.size, y, none⟩ = some (.int .i64 pq) ∧ wq.frozen? ⟨W.heap.size, y, none⟩ = false ∧ (∀ j' (hj : j' < is.length), j' < j + 1 → (0 ≤ is[j'] ∧ is[j'] < h.length) ∧ (UpI h is[j'].toNat ∨ RdI h is[j'].toNat) ∧ ∀ q, q < j' → is[q]? ≠ some is[j'])) := Lib.hid fun hk wq hq => by
                  refine ⟨?_, (KW.out.trans (hq.mono KW.out.size)).setCell (p := ⟨W.heap.size, y, none⟩) (Nat.le_refl _) _, by rw [← hpq]; exact ((HB.out.on hq).cell y).trans (cellsF_at HYN.out.1), (HB.out.on hq).frozen y, HYES.out ⟨⟨by omega, by omega⟩, by simpa using hk, HONE.out⟩⟩
                  have h1 := (HB.out.on hq).set_ y (.int .i64 (j : Int))
                  rw [cellsF_set HYN.out.1] at h1
                  rw [cellsF_congr (g := fun i => if i = y then (j : Int) else posK is j i) (fun i _ => by
                    rw [HPK.out i]
                    by_cases e : i = y
                    · rw [if_pos e, if_pos (by rw [e])]
                    · rw [if_neg e, if_neg (fun q => e (by omega))])]
                  exact h1
                clear hpq HPK HYES HALL HONE
                go_wp2_with fail
                refine (rupdate_any _ o _ (HOP.out _ KW.out)).mono ?_
                rintro e w4 ⟨rfl, hb4⟩
                rw [HUD.out]
                by_cases hu : UpI h y
                · have HP2 := Lib.hid (HPUT.out (.inl hu) w4 hb4)
                  rw [decide_eq_true hu]
                  have z1 := HP2.out.2.2.1
                  have z2 := HP2.out.2.2.2.1
                  clear hu HPUT hb4 d0 d1 d2 d3 d4 d5 x0 f0
                  go_wp2
                  go_roundg (is.length - (j + 1))
                  case measure => have := HM.out; omega
                  case rel => exact ⟨j + 1, by omega, by go_num, HP2.out.1, HP2.out.2.1, HP2.out.2.2.2.2⟩
                · have HU := Lib.hid hu
                  have KW4 := Lib.hid (KW.out.trans (hb4.mono KW.out.size))
                  have H4 := Lib.hid hb4
                  rw [decide_eq_false hu]
                  clear hu hb4 d0 d1 d2 d3 d4 d5 x0 f0
                  obtain ⟨d0, d1, d2, d3, d4, d5⟩ := HDC.out w4 KW4.out
                  go_wp2_with fail
                  refine (rread_any _ o _ (HOP.out _ KW4.out)).mono ?_
                  rintro e w5 ⟨rfl, hb5⟩
                  rw [HRD.out]
                  by_cases hrd : RdI h y
                  · have HP2 := Lib.hid (HPUT.out (.inr hrd) w5 (H4.out.trans (hb5.mono H4.out.size)))
                    rw [decide_eq_true hrd]
                    have z1 := HP2.out.2.2.1
                    have z2 := HP2.out.2.2.2.1
                    clear hrd HPUT hb5 d0 d1 d2 d3 d4 d5
                    go_wp2
                    go_roundg (is.length - (j + 1))
                    case measure => have := HM.out; omega
                    case rel => exact ⟨j + 1, by omega, by go_num, HP2.out.1, HP2.out.2.1, HP2.out.2.2.2.2⟩
                  · have HNP : Hid (¬ PlOk h is) := Lib.hid fun hq => by
                      have h1 := (HNO.out hq).2.1
                      simp at h1
                      exact h1.elim HU.out hrd
                    have KW5 := Lib.hid (KW4.out.trans (hb5.mono KW4.out.size))
                    rw [decide_eq_false hrd]
                    clear hrd HPUT hb5 d0 d1 d2 d3 d4 d5
                    go_wp2
                    go_ret2
                    exact pl_no HNP.out KW5.out
        · have hjj : j = is.length := by omega
          subst hjj
          have HALL2 : Hid (∀ j' (hj : j' < is.length), (0 ≤ is[j'] ∧ is[j'] < h.length) ∧ (UpI h is[j'].toNat ∨ RdI h is[j'].toNat) ∧ ∀ q, q < j' → is[q]? ≠ some is[j']) := Lib.hid fun j' hj' => HALL.out j' hj' hj'
          clear HALL HM
          go_wp2
          obtain ⟨wo, hwo⟩ : ∃ x, x = wr := ⟨_, rfl⟩
          rw [← hwo] at HB KW ⊢
          clear hwo
          go_loop [10] (fun i => ∃ k : Nat, k ≤ h.length ∧ i = .int .i64 ((k : Nat) : Int) ∧ ∀ i', i' < k → 0 ≤ endO (nth h i') → 0 ≤ posK is is.length i') (fun i => h.length - (intOf i).toNat)
          case atStart => exact ⟨0, by omega, rfl, fun i hi => by omega⟩
          case round =>
            obtain ⟨k, hk, rfl, hall⟩ := hrel
            have HALL := Lib.hid hall
            clear hall
            by_cases hlt : k < h.length
            · have hki : (k : Int) < h.length := by omega
              have hk0 : (0 : Int) ≤ (k : Int) := by omega
              have x0 : wo.cell? ⟨W.heap.size, k, none⟩ = some (.int .i64 (posK is is.length k)) := (HB.out.cell k).trans (cellsF_at hlt)
              obtain ⟨b2, off, cap1, a4, c4, a5, c5, hv, _, _, hm4, hm5, hl4, hl5, hcell, -, -⟩ := HR.out.at2 hlt
              injection hv with e1 e2 e3
              subst e1
              have d3 := (hcell wo KW.out).2.2.2.1
              have HEN : Hid (endO (nth h k) = endO h[k]) := Lib.hid (by rw [nth_eq hlt])
              have HNP : Hid (¬ 0 ≤ posK is is.length k → 0 ≤ endO (nth h k) → ¬ PlOk h is) := Lib.hid fun h1 h2 hp => h1 (hp.all k hlt h2)
              have HYS : Hid ((0 ≤ endO (nth h k) → 0 ≤ posK is is.length k) → ∀ i', i' < k + 1 → 0 ≤ endO (nth h i') → 0 ≤ posK is is.length i') := Lib.hid fun h1 i' hi' => by
                by_cases e : i' = k
                · subst e; exact h1
                · exact HALL.out i' (by omega)
              rw [← HEN.out] at d3
              clear e2 e3 hcell hm4 hm5 hl4 hl5 HEN
              generalize endO (nth h k) = en at *
              generalize posK is is.length k = pk at *
              clear hlt
              by_cases hpk : pk < 0
              · have hd := decide_eq_true hpk
                by_cases hen : 0 ≤ en
                · have hd2 := decide_eq_true hen
                  have HN2 := Lib.hid (HNP.out (by omega) hen)
                  clear hpk hen
                  go_wp2
                  go_ret2
                  exact pl_no HN2.out KW.out
                · have hd2 := decide_eq_false hen
                  have HY2 := Lib.hid (HYS.out (fun q => absurd q hen))
                  clear hpk hen
                  go_wp2
                  go_round
                  case rel => exact ⟨k + 1, by omega, by go_num, HY2.out⟩
                  case measure => simp [intOf]; omega
              · have hd := decide_eq_false hpk
                have HY2 := Lib.hid (HYS.out (fun _ => by omega))
                clear hpk
                go_wp2
                go_round
                case rel => exact ⟨k + 1, by omega, by go_num, HY2.out⟩
                case measure => simp [intOf]; omega
            · have hkk : k = h.length := by omega
              have HPO : Hid (PlOk h is) := Lib.hid ⟨fun j hj => (HALL2.out j hj).1, fun j hj => (HALL2.out j hj).2.1, fun j hj => (HALL2.out j hj).2.2, fun i hi => HALL.out i (by omega)⟩
              have HRD : Hid (Reads vi wo (.slice (some ⟨W.heap.size, 0, none⟩) h.length h.length) (listF h.length (posK is is.length))) := Lib.hid (by
                have h9 := blk_reads (xs := listF h.length (posK is is.length)) HB.out (cellsF_list _ _) (by rw [listF_len]; exact hn)
                rwa [listF_len] at h9)
              go_wp2
              go_ret2
              exact pl_yes HPO.out HRD.out KW.out
end Go.Proofs.Ytjijlhjggpibjaa
