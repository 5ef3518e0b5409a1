/-
  Chapter 55: package session: its sets, and its small functions.
-/
import Derived.Test.YtjijlhjggpibjaaGm
namespace Go.Proofs.Ytjijlhjggpibjaa
open Go.RowKit Go.Maps

def setD (v : Value) : Option Bool := match v with
  | .bool b => some b
  | _ => none
/-- session.set. -/
noncomputable def setT : MapTy Str Bool where
  t := 79
  k := 9
  e := 4
  kd := string_keyed Try.underlying9
  ht := Try.underlying79
  kv := fun s => .string (toB s)
  kl := fun s => .string s
  ok := fun s => s.length ≤ maxLen
  hkey := fun _ h => keyStr h
  klit := fun _ => trivial
  kinj := fun s s' h => by injection h
  V := fun b => .bool b
  dec := setD
  Dt := fun b => .lit (.bool b)
  dV := fun _ => rfl
  Vd := fun v a h => by
    unfold setD at h
    split at h
    · injection h with h; subst h; rfl
    · cases h
  Dinj := fun a b h => by
    injection h with h
    injection h
  z0 := false
  hz := fun w => Try.zeroValue4 w
def memM (S : List Str) : Str → Option Bool := fun s => if s ∈ S then some true else none
theorem memM_snoc (S : List Str) (s : Str) : updM (memM S) s true = memM (S ++ [s]) := by
  funext x
  unfold updM memM
  by_cases h : x = s
  · subst h; rw [if_pos rfl, if_pos (by simp)]
  · rw [if_neg h]
    by_cases h2 : x ∈ S
    · rw [if_pos h2, if_pos (by simp [h2])]
    · rw [if_neg h2, if_neg (by simp [h2, h])]
theorem memM_get (S : List Str) (s : Str) : setT.V ((memM S s).getD setT.z0) = .bool (decide (s ∈ S)) := by
  unfold memM
  by_cases h : s ∈ S
  · rw [if_pos h, decide_eq_true h]; rfl
  · rw [if_neg h, decide_eq_false h]; rfl
/-- The set S lies at b. -/
def SetM (w : World) (b : Nat) (S : List Str) : Prop := ∃ n, MapAt setT w b n (memM S)
theorem SetM.on {w w' : World} {b : Nat} {S : List Str} (h : SetM w b S) (hb : Below w.heap.size w w') : SetM w' b S := by obtain ⟨n, h⟩ := h; exact ⟨n, h.on hb⟩
def SetMade (W : World) (S : List Str) (e : Ending) (w' : World) : Prop := ∃ b, e = .returned (.map (some b)) ∧ SetM w' b S ∧ Below W.heap.size W w'

set_option maxRecDepth 100000 in
theorem setOf_any (v : Value) (xs : List Str) (W : World) (hr : Reads vs W v xs) (hn : xs.length ≤ 1000) (hst : ∀ s ∈ xs, s.length ≤ maxLen) : Calls Try.prog 76 #[v] W (SetMade W xs) := by
  have HR := Lib.hid hr
  have HST := Lib.hid hst
  obtain ⟨ao, cap, rfl, hl, hm, -, -⟩ := hr
  unfold maxLen at hm
  clear hst
  have HM0 : Hid (MapAt setT (W.alloc (.map #[] 0)) W.heap.size 0 (memM [])) := Lib.hid (by
    have h1 := MapAt.made setT W
    exact h1.congr fun s => (if_neg (by simp)).symm)
  have HB0 : Hid (Below W.heap.size W (W.alloc (.map #[] 0))) := Lib.hid ((Below.refl _ _).alloc (Nat.le_refl _) _)
  go_enter Try.func76, Try.ntmps76
  go_wp2_with (refine wpList_make_map rfl 79 rfl ?_)
  go_loopg [9] xs.length (fun m i wr => ∃ k : Nat, m + k = xs.length ∧ i = .int .i64 ((k : Nat) : Int) ∧ MapAt setT wr W.heap.size k (memM (xs.take k)) ∧ Below W.heap.size W wr)
  case atStart => exact ⟨0, by omega, rfl, HM0.out, HB0.out⟩
  case round =>
    clear HM0 HB0
    obtain ⟨k, hmk, rfl, hmap, hbel⟩ := hrel
    have HM := Lib.hid hmk
    have HMAP := Lib.hid hmap
    have KW := Lib.hid hbel
    have hk : k ≤ xs.length := by omega
    clear hmk hmap hbel
    by_cases hlt : k < xs.length
    · obtain ⟨bs, os, cs, hv, hbs, hcs⟩ := str_at HR.out hlt
      injection hv with e1 e2 e3
      subst e1
      have hcs2 := (KW.out.cell (p := ⟨bs, os + k, none⟩) hbs).trans hcs
      have hki : (k : Int) < xs.length := by omega
      have hk0 : (0 : Int) ≤ (k : Int) := by omega
      have hsl := Lib.hid (HST.out _ (List.getElem_mem hlt))
      have HTK : Hid (updM (memM (xs.take k)) xs[k] true = memM (xs.take (k + 1))) := Lib.hid (by rw [memM_snoc, List.take_succ_eq_append_getElem hlt])
      have hbig : k < maxLen := by unfold maxLen; omega
      unfold vs at hcs2
      clear e2 e3 hcs hbs
      generalize xs[k] = s at *
      clear hlt
      go_wp2_with (refine wpList_map_put setT rfl (.tmp 13) (.tmp 14) (.const (.bool true)) rfl W.heap.size k _ s true rfl HMAP.out hbig rfl hsl.out rfl ?_)
      intro w2 hmap2 hgr2
      have HM2 : Hid (MapAt setT w2 W.heap.size (k + 1) (memM (xs.take (k + 1)))) := Lib.hid (by rw [← HTK.out]; exact hmap2)
      have K2 := Lib.hid (KW.out.grown hgr2 KW.out.size (fun j hj => by injection hj with hj; omega))
      clear hmap2 hgr2
      go_wp2
      go_roundg (xs.length - (k + 1))
      case measure => have := HM.out; omega
      case rel => exact ⟨k + 1, by omega, by go_num, HM2.out, K2.out⟩
    · have hkk : k = xs.length := by omega
      have HS : Hid (SetM wr W.heap.size xs) := Lib.hid ⟨k, by have h9 := HMAP.out; rw [hkk, List.take_length] at h9; rw [hkk]; exact h9⟩
      clear hkk
      go_wp2
      go_ret
      exact ⟨_, rfl, HS.out, KW.out⟩
theorem allclo_any (s : Str) (p b : Nat) (S : List Str) (w : World) (hc : w.cell? ⟨p, 0, none⟩ = some (.map (some b))) (hS : SetM w b S) (hl : s.length ≤ maxLen) : Calls Try.prog 99 #[vs s, .pointer (some ⟨p, 0, none⟩)] w fun e w' => e = .returned (.bool (!decide (s ∈ S))) ∧ w = w' := by
  obtain ⟨n, hS⟩ := hS
  have HS := Lib.hid hS
  have HG := Lib.hid (memM_get S s)
  have HL := Lib.hid hl
  clear hS hl
  unfold vs
  generalize decide (s ∈ S) = r at *
  go_enter Try.func99, Try.ntmps99
  go_wp2_with (refine wpList_map_get setT rfl (.tmp 4) (.tmp 5) rfl b n (memM S) s rfl HS.out rfl HL.out HG.out ?_)
  go_ret
  exact ⟨rfl, rfl⟩
theorem touchclo_any (s : Str) (p b : Nat) (S : List Str) (w : World) (hc : w.cell? ⟨p, 0, none⟩ = some (.map (some b))) (hS : SetM w b S) (hl : s.length ≤ maxLen) : Calls Try.prog 100 #[vs s, .pointer (some ⟨p, 0, none⟩)] w fun e w' => e = .returned (.bool (decide (s ∈ S))) ∧ w = w' := by
  obtain ⟨n, hS⟩ := hS
  have HS := Lib.hid hS
  have HG := Lib.hid (memM_get S s)
  have HL := Lib.hid hl
  clear hS hl
  unfold vs
  generalize decide (s ∈ S) = r at *
  go_enter Try.func100, Try.ntmps100
  go_wp2_with (refine wpList_map_get setT rfl (.tmp 4) (.tmp 5) rfl b n (memM S) s rfl HS.out rfl HL.out HG.out ?_)
  go_ret
  exact ⟨rfl, rfl⟩
set_option maxRecDepth 100000 in
theorem allIndex_any (v : Value) (xs : List Str) (p b : Nat) (S : List Str) (w : World) (hr : Reads vs w v xs) (hc : w.cell? ⟨p, 0, none⟩ = some (.map (some b))) (hS : SetM w b S) (hst : ∀ s ∈ xs, s.length ≤ maxLen) :
    Calls Try.prog 109 #[v, .func (.func 99) #[] #[.pointer (some ⟨p, 0, none⟩)]] w fun e w' => ∃ i : Int, e = .returned (.int .i64 i) ∧ decide (0 ≤ i) = xs.any (fun s => !decide (s ∈ S)) ∧ w = w' := by
  have HCL : Hid (∀ j (hj : j < xs.length), Calls Try.prog 99 #[vs xs[j], .pointer (some ⟨p, 0, none⟩)] w fun e w' => e = .returned (.bool (!decide (xs[j] ∈ S))) ∧ w = w') := Lib.hid fun j hj => allclo_any xs[j] p b S w hc hS (hst _ (List.getElem_mem hj))
  obtain ⟨ao, cap, rfl, hl, hm, hn, hx⟩ := hr
  unfold maxLen at hm
  clear hn hc hS hst
  have HXX := Lib.hid hx
  clear hx
  go_enter Try.func109, Try.ntmps109
  go_wp2
  go_loop [8] (fun i => ∃ k : Nat, k ≤ xs.length ∧ i = .int .i64 ((k : Nat) : Int) ∧ (xs.take k).any (fun s => !decide (s ∈ S)) = false) (fun i => xs.length - (intOf i).toNat)
  case atStart => exact ⟨0, by omega, rfl, by simp⟩
  case round =>
    obtain ⟨k, hk, rfl, hp⟩ := hrel
    have HP := Lib.hid hp
    clear hp
    by_cases hlt : k < xs.length
    · obtain ⟨bb, off, rfl, hb, hc⟩ := HXX.out (by intro e; subst e; simp at hlt)
      have h2 : w.cell? ⟨bb, off + k, none⟩ = some (.string (toB xs[k])) := hc k hlt
      have hki : (k : Int) < xs.length := by omega
      have hk0 : (0 : Int) ≤ (k : Int) := by omega
      have HC := Lib.hid (HCL.out k hlt)
      have HTK : Hid ((xs.take (k + 1)).any (fun s => !decide (s ∈ S)) = (!decide (xs[k] ∈ S))) := Lib.hid (by
        rw [List.take_succ_eq_append_getElem hlt, List.any_append, HP.out]; simp)
      have HAL : Hid ((!decide (xs[k] ∈ S)) = true → xs.any (fun s => !decide (s ∈ S)) = true) := Lib.hid fun q => List.any_eq_true.2 ⟨xs[k], List.getElem_mem hlt, q⟩
      unfold vs at HC
      clear hc hb
      generalize xs[k] = s at *
      clear hlt
      cases hd : (!decide (s ∈ S)) with
      | true =>
        rw [hd] at HC
        have HE := Lib.hid (HAL.out hd)
        clear hd HTK HAL
        go_wp2_with fail
        refine HC.out.mono ?_
        rintro e w1 ⟨rfl, rfl⟩
        go_wp2
        go_ret
        exact ⟨_, rfl, by rw [HE.out]; exact decide_eq_true hk0, rfl⟩
      | false =>
        rw [hd] at HC HTK
        clear hd HAL
        go_wp2_with fail
        refine HC.out.mono ?_
        rintro e w1 ⟨rfl, rfl⟩
        go_wp2
        go_round
        case rel => exact ⟨k + 1, by omega, by go_num, HTK.out⟩
        case measure => simp [intOf]; omega
    · have HE : Hid (xs.any (fun s => !decide (s ∈ S)) = false) := Lib.hid (by have h9 := HP.out; rwa [List.take_of_length_le (by omega)] at h9)
      go_wp2
      go_ret
      exact ⟨_, rfl, by rw [HE.out]; rfl, rfl⟩
theorem allContains_any (v : Value) (xs : List Str) (p b : Nat) (S : List Str) (w : World) (hr : Reads vs w v xs) (hc : w.cell? ⟨p, 0, none⟩ = some (.map (some b))) (hS : SetM w b S) (hst : ∀ s ∈ xs, s.length ≤ maxLen) :
    Calls Try.prog 98 #[v, .func (.func 99) #[] #[.pointer (some ⟨p, 0, none⟩)]] w fun e w' => e = .returned (.bool (xs.any (fun s => !decide (s ∈ S)))) ∧ w = w' := by
  have HI := Lib.hid (allIndex_any v xs p b S w hr hc hS hst)
  obtain ⟨ao, cap, rfl, -, -, -, -⟩ := hr
  clear hc hS hst
  go_enter Try.func98, Try.ntmps98
  go_wp2_with fail
  refine HI.out.mono ?_
  rintro e w1 ⟨i, rfl, hi, rfl⟩
  have HV := Lib.hid hi
  clear HI hi
  go_wp2
  go_ret
  exact ⟨ret_bool HV.out, rfl⟩
set_option maxRecDepth 100000 in
theorem touchIndex_any (v : Value) (xs : List Str) (p b : Nat) (S : List Str) (w : World) (hr : Reads vs w v xs) (hc : w.cell? ⟨p, 0, none⟩ = some (.map (some b))) (hS : SetM w b S) (hst : ∀ s ∈ xs, s.length ≤ maxLen) :
    Calls Try.prog 109 #[v, .func (.func 100) #[] #[.pointer (some ⟨p, 0, none⟩)]] w fun e w' => ∃ i : Int, e = .returned (.int .i64 i) ∧ decide (0 ≤ i) = xs.any (fun s => decide (s ∈ S)) ∧ w = w' := by
  have HCL : Hid (∀ j (hj : j < xs.length), Calls Try.prog 100 #[vs xs[j], .pointer (some ⟨p, 0, none⟩)] w fun e w' => e = .returned (.bool (decide (xs[j] ∈ S))) ∧ w = w') := Lib.hid fun j hj => touchclo_any xs[j] p b S w hc hS (hst _ (List.getElem_mem hj))
  obtain ⟨ao, cap, rfl, hl, hm, hn, hx⟩ := hr
  unfold maxLen at hm
  clear hn hc hS hst
  have HXX := Lib.hid hx
  clear hx
  go_enter Try.func109, Try.ntmps109
  go_wp2
  go_loop [8] (fun i => ∃ k : Nat, k ≤ xs.length ∧ i = .int .i64 ((k : Nat) : Int) ∧ (xs.take k).any (fun s => decide (s ∈ S)) = false) (fun i => xs.length - (intOf i).toNat)
  case atStart => exact ⟨0, by omega, rfl, by simp⟩
  case round =>
    obtain ⟨k, hk, rfl, hp⟩ := hrel
    have HP := Lib.hid hp
    clear hp
    by_cases hlt : k < xs.length
    · obtain ⟨bb, off, rfl, hb, hc⟩ := HXX.out (by intro e; subst e; simp at hlt)
      have h2 : w.cell? ⟨bb, off + k, none⟩ = some (.string (toB xs[k])) := hc k hlt
      have hki : (k : Int) < xs.length := by omega
      have hk0 : (0 : Int) ≤ (k : Int) := by omega
      have HC := Lib.hid (HCL.out k hlt)
      have HTK : Hid ((xs.take (k + 1)).any (fun s => decide (s ∈ S)) = (decide (xs[k] ∈ S))) := Lib.hid (by
        rw [List.take_succ_eq_append_getElem hlt, List.any_append, HP.out]; simp)
      have HAL : Hid ((decide (xs[k] ∈ S)) = true → xs.any (fun s => decide (s ∈ S)) = true) := Lib.hid fun q => List.any_eq_true.2 ⟨xs[k], List.getElem_mem hlt, q⟩
      unfold vs at HC
      clear hc hb
      generalize xs[k] = s at *
      clear hlt
      cases hd : (decide (s ∈ S)) with
      | true =>
        rw [hd] at HC
        have HE := Lib.hid (HAL.out hd)
        clear hd HTK HAL
        go_wp2_with fail
        refine HC.out.mono ?_
        rintro e w1 ⟨rfl, rfl⟩
        go_wp2
        go_ret
        exact ⟨_, rfl, by rw [HE.out]; exact decide_eq_true hk0, rfl⟩
      | false =>
        rw [hd] at HC HTK
        clear hd HAL
        go_wp2_with fail
        refine HC.out.mono ?_
        rintro e w1 ⟨rfl, rfl⟩
        go_wp2
        go_round
        case rel => exact ⟨k + 1, by omega, by go_num, HTK.out⟩
        case measure => simp [intOf]; omega
    · have HE : Hid (xs.any (fun s => decide (s ∈ S)) = false) := Lib.hid (by have h9 := HP.out; rwa [List.take_of_length_le (by omega)] at h9)
      go_wp2
      go_ret
      exact ⟨_, rfl, by rw [HE.out]; rfl, rfl⟩
theorem touchContains_any (v : Value) (xs : List Str) (p b : Nat) (S : List Str) (w : World) (hr : Reads vs w v xs) (hc : w.cell? ⟨p, 0, none⟩ = some (.map (some b))) (hS : SetM w b S) (hst : ∀ s ∈ xs, s.length ≤ maxLen) :
    Calls Try.prog 98 #[v, .func (.func 100) #[] #[.pointer (some ⟨p, 0, none⟩)]] w fun e w' => e = .returned (.bool (xs.any (fun s => decide (s ∈ S)))) ∧ w = w' := by
  have HI := Lib.hid (touchIndex_any v xs p b S w hr hc hS hst)
  obtain ⟨ao, cap, rfl, -, -, -, -⟩ := hr
  clear hc hS hst
  go_enter Try.func98, Try.ntmps98
  go_wp2_with fail
  refine HI.out.mono ?_
  rintro e w1 ⟨i, rfl, hi, rfl⟩
  have HV := Lib.hid hi
  clear HI hi
  go_wp2
  go_ret
  exact ⟨ret_bool HV.out, rfl⟩
theorem all_any (b : Nat) (v : Value) (S xs : List Str) (w : World) (hr : Reads vs w v xs) (hS : SetM w b S) (hst : ∀ s ∈ xs, s.length ≤ maxLen) : Calls Try.prog 78 #[.map (some b), v] w (BoolMade w (!xs.any (fun s => !decide (s ∈ S)))) := by
  have HB : Hid (Below w.heap.size w (w.alloc (.cells #[.map (some b)] 79))) := Lib.hid ((Below.refl _ _).alloc (Nat.le_refl _) _)
  have HK := Lib.hid (allContains_any v xs w.heap.size b S (w.alloc (.cells #[.map (some b)] 79)) (hr.keep HB.out) ((Blk.new w 79 #[.map (some b)]).cell 0) (hS.on HB.out) hst)
  obtain ⟨ao, cap, rfl, -, -, -, -⟩ := hr
  obtain ⟨r, hr0⟩ : ∃ r, r = xs.any (fun s => !decide (s ∈ S)) := ⟨_, rfl⟩
  rw [← hr0] at HK ⊢
  clear hS hst hr0
  go_enter Try.func78, Try.ntmps78
  go_wp2_with fail
  refine HK.out.mono ?_
  rintro e w1 ⟨rfl, rfl⟩
  clear HK
  go_wp2
  go_ret
  exact ⟨rfl, HB.out⟩
theorem touch_any (b : Nat) (v : Value) (S xs : List Str) (w : World) (hr : Reads vs w v xs) (hS : SetM w b S) (hst : ∀ s ∈ xs, s.length ≤ maxLen) : Calls Try.prog 79 #[.map (some b), v] w (BoolMade w (xs.any (fun s => decide (s ∈ S)))) := by
  have HB : Hid (Below w.heap.size w (w.alloc (.cells #[.map (some b)] 79))) := Lib.hid ((Below.refl _ _).alloc (Nat.le_refl _) _)
  have HK := Lib.hid (touchContains_any v xs w.heap.size b S (w.alloc (.cells #[.map (some b)] 79)) (hr.keep HB.out) ((Blk.new w 79 #[.map (some b)]).cell 0) (hS.on HB.out) hst)
  obtain ⟨ao, cap, rfl, -, -, -, -⟩ := hr
  obtain ⟨r, hr0⟩ : ∃ r, r = xs.any (fun s => decide (s ∈ S)) := ⟨_, rfl⟩
  rw [← hr0] at HK ⊢
  clear hS hst hr0
  go_enter Try.func79, Try.ntmps79
  go_wp2_with fail
  refine HK.out.mono ?_
  rintro e w1 ⟨rfl, rfl⟩
  clear HK
  go_wp2
  go_ret
  exact ⟨rfl, HB.out⟩
theorem sreads_any (v : Value) (o : Opn) (w : World) (ho : OpAt w v o) : Calls Try.prog 56 #[v] w (BoolMade w (rdO o)) := by
  obtain ⟨va, vz, rfl, r1, r2⟩ := ho
  obtain ⟨x1, y1, z1, rfl⟩ := Slc.of_reads r1
  obtain ⟨x2, y2, z2, rfl⟩ := Slc.of_reads r2
  clear r1 r2
  unfold opV
  have hp : rdO o = decide (kindO o = 2 ∧ 0 ≤ endO o) := rfl
  generalize rdO o = p at *
  generalize kindO o = k at *
  generalize endO o = e at *
  by_cases h1 : k = 2
  · have e1 := beq_t h1
    by_cases h2 : 0 ≤ e
    · have hr : Hid (p = true) := Lib.hid (hp.trans (decide_eq_true ⟨h1, h2⟩))
      have e2 := decide_eq_true h2
      clear hp h1
      go_enter Try.func56, Try.ntmps56
      go_wp2
      go_ret
      exact ⟨ret_bool hr.out.symm, (Below.refl _ _).alloc (Nat.le_refl _) _⟩
    · have hr : Hid (p = false) := Lib.hid (hp.trans (decide_eq_false fun h => h2 h.2))
      have e2 := decide_eq_false h2
      clear hp h1
      go_enter Try.func56, Try.ntmps56
      go_wp2
      go_ret
      exact ⟨ret_bool hr.out.symm, (Below.refl _ _).alloc (Nat.le_refl _) _⟩
  · have e1 := beq_f h1
    have hr : Hid (p = false) := Lib.hid (hp.trans (decide_eq_false fun h => h1 h.1))
    clear hp h1
    go_enter Try.func56, Try.ntmps56
    go_wp2
    go_ret
    exact ⟨ret_bool hr.out.symm, (Below.refl _ _).alloc (Nat.le_refl _) _⟩
theorem supdates_any (v : Value) (o : Opn) (w : World) (ho : OpAt w v o) : Calls Try.prog 58 #[v] w (BoolMade w (upO o)) := by
  obtain ⟨va, vz, rfl, r1, r2⟩ := ho
  obtain ⟨x1, y1, z1, rfl⟩ := Slc.of_reads r1
  obtain ⟨x2, y2, z2, rfl⟩ := Slc.of_reads r2
  clear r1 r2
  unfold opV
  have hp : upO o = decide (kindO o = 1) := rfl
  generalize upO o = p at *
  generalize kindO o = k at *
  by_cases h1 : k = 1
  · have e1 := beq_t h1
    have hr : Hid (p = true) := Lib.hid (hp.trans (decide_eq_true h1))
    clear hp h1
    go_enter Try.func58, Try.ntmps58
    go_wp2
    go_ret
    exact ⟨ret_bool hr.out.symm, (Below.refl _ _).alloc (Nat.le_refl _) _⟩
  · have e1 := beq_f h1
    have hr : Hid (p = false) := Lib.hid (hp.trans (decide_eq_false h1))
    clear hp h1
    go_enter Try.func58, Try.ntmps58
    go_wp2
    go_ret
    exact ⟨ret_bool hr.out.symm, (Below.refl _ _).alloc (Nat.le_refl _) _⟩
def earO (a b : Opn) : Bool := decide (cliO a = cliO b ∧ 0 ≤ endO a ∧ endO a < begO b)
theorem searlier_any (v u : Value) (a b : Opn) (w : World) (ha : OpAt w v a) (hb : OpAt w u b) : Calls Try.prog 77 #[v, u] w (BoolMade w (earO a b)) := by
  obtain ⟨va, vz, rfl, r1, r2⟩ := ha
  obtain ⟨x1, y1, z1, rfl⟩ := Slc.of_reads r1
  obtain ⟨x2, y2, z2, rfl⟩ := Slc.of_reads r2
  clear r1 r2
  obtain ⟨va, vz, rfl, r1, r2⟩ := hb
  obtain ⟨x3, y3, z3, rfl⟩ := Slc.of_reads r1
  obtain ⟨x4, y4, z4, rfl⟩ := Slc.of_reads r2
  clear r1 r2
  unfold opV
  have hp : earO a b = decide (cliO a = cliO b ∧ 0 ≤ endO a ∧ endO a < begO b) := rfl
  generalize earO a b = p at *
  generalize cliO a = ca at *
  generalize cliO b = cb at *
  generalize endO a = e at *
  generalize begO b = g at *
  by_cases h0 : ca = cb
  · have e0 := beq_t h0
    by_cases h1 : 0 ≤ e
    · have e1 := decide_eq_true h1
      by_cases h2 : e < g
      · have hr : Hid (p = true) := Lib.hid (hp.trans (decide_eq_true ⟨h0, h1, h2⟩))
        have e2 := decide_eq_true h2
        clear hp h0
        go_enter Try.func77, Try.ntmps77
        go_wp2
        go_ret
        exact ⟨ret_bool hr.out.symm, below_two _ _ _⟩
      · have hr : Hid (p = false) := Lib.hid (hp.trans (decide_eq_false fun h => h2 h.2.2))
        have e2 := decide_eq_false h2
        clear hp h0
        go_enter Try.func77, Try.ntmps77
        go_wp2
        go_ret
        exact ⟨ret_bool hr.out.symm, below_two _ _ _⟩
    · have e1 := decide_eq_false h1
      have hr : Hid (p = false) := Lib.hid (hp.trans (decide_eq_false fun h => h1 h.2.1))
      clear hp h0
      go_enter Try.func77, Try.ntmps77
      go_wp2
      go_ret
      exact ⟨ret_bool hr.out.symm, below_two _ _ _⟩
  · have e0 := beq_f h0
    have hr : Hid (p = false) := Lib.hid (hp.trans (decide_eq_false fun h => h0 h.1))
    clear hp h0
    go_enter Try.func77, Try.ntmps77
    go_wp2
    go_ret
    exact ⟨ret_bool hr.out.symm, below_two _ _ _⟩
theorem ssees_any (o : Opn) (a4 a5 : Option Addr) (n4 c4 n5 c5 : Nat) (w : World) : Calls Try.prog 57 #[.agg #[.int .i64 (cliO o), .int .i64 (kindO o), .int .i64 (begO o), .int .i64 (endO o), .slice a4 n4 c4, .slice a5 n5 c5]] w fun e w' => e = .returned (.slice a5 n5 c5) ∧ Below w.heap.size w w' := by
  go_enter Try.func57, Try.ntmps57
  go_wp2
  go_ret
  exact ⟨rfl, (Below.refl _ _).alloc (Nat.le_refl _) _⟩
theorem sadds_any (o : Opn) (a4 a5 : Option Addr) (n4 c4 n5 c5 : Nat) (w : World) : Calls Try.prog 59 #[.agg #[.int .i64 (cliO o), .int .i64 (kindO o), .int .i64 (begO o), .int .i64 (endO o), .slice a4 n4 c4, .slice a5 n5 c5]] w fun e w' => e = .returned (.slice a4 n4 c4) ∧ Below w.heap.size w w' := by
  go_enter Try.func59, Try.ntmps59
  go_wp2
  go_ret
  exact ⟨rfl, (Below.refl _ _).alloc (Nat.le_refl _) _⟩
end Go.Proofs.Ytjijlhjggpibjaa
