/-
  Chapter 28: the reference network's Drop, Peek, Deliver.
  Chapter 28: the reference network's Heal, Partition, Counts, Deliverable.
-/
import Derived.Test.YtmcdmcnbnnfhnaaYq
import Derived.Test.YtmcdmcnbnnfhnaaVg
import Derived.Test.YtmcdmcnbnnfhnaaWd
namespace Go.Proofs.Ytmcdmcnbnnfhnaa
open Go.RowKit
set_option maxRecDepth 100000

def RDropMade (B : Nat) (R : Nat → Prop) (u : Nat) (gv : Value) (c : Int) (r' : RefS) (w : World) (e : Ending) (w' : World) : Prop := e = .returned (.int .i64 c) ∧ (∃ nv' mv', RefAt B R u nv' mv' gv r' w') ∧ Kept R w w'
def RPeekMade (B : Nat) (m : MsgM) (c : Int) (w : World) (e : Ending) (w' : World) : Prop := ∃ cs : List Value, e = .returned (.tuple #[.agg cs.toArray, .int .i64 c]) ∧ Below w.heap.size w w' ∧ CellsD (fun k => k < B) w' cs (msgD m)
def RDelMade (B : Nat) (R : Nat → Prop) (u : Nat) (gv : Value) (m : MsgM) (c : Int) (r' : RefS) (w : World) (e : Ending) (w' : World) : Prop :=
  ∃ cs : List Value, e = .returned (.tuple #[.agg cs.toArray, .int .i64 c]) ∧ (∃ nv' mv', RefAt B R u nv' mv' gv r' w') ∧ Kept R w w' ∧ CellsD (fun k => k < B) w' cs (msgD m)
theorem dropQ_none {r : RefS} {x : Int} (h : placeN r.nums x = none) : dropQ r x = (14, r) := by unfold dropQ; rw [h]
theorem dropQ_some {r : RefS} {x : Int} {i : Nat} (h : placeN r.nums x = some i) : dropQ r x = (0, { remQ r i with d3 := r.d3 + 1 }) := by unfold dropQ; rw [h]
theorem peekQ_none {r : RefS} {x : Int} (h : placeN r.nums x = none) : peekQ r x = (zeroM, 14) := by unfold peekQ; rw [h]
theorem peekQ_some {r : RefS} {x : Int} {i : Nat} (h : placeN r.nums x = some i) : peekQ r x = (msgQ r i, 0) := by unfold peekQ; rw [h]
theorem delQ_none {r : RefS} {x : Int} (h : placeN r.nums x = none) : delQ r x = (zeroM, 14, r) := by unfold delQ; rw [h]
theorem delQ_no {r : RefS} {x : Int} {i : Nat} (h : placeN r.nums x = some i) (h2 : rconnB r.split r.gs (msgQ r i).frm (msgQ r i).to = false) : delQ r x = (zeroM, 9, r) := by
  unfold delQ; rw [h]
  exact if_neg (by rw [h2]; exact Bool.false_ne_true)
theorem delQ_yes {r : RefS} {x : Int} {i : Nat} (h : placeN r.nums x = some i) (h2 : rconnB r.split r.gs (msgQ r i).frm (msgQ r i).to = true) : delQ r x = (msgQ r i, 0, { remQ r i with d2 := r.d2 + 1 }) := by
  unfold delQ; rw [h]
  exact if_pos h2
section
variable {B u : Nat} {R : Nat → Prop} {nv mv gv : Value} {r : RefS} {w : World}
set_option maxHeartbeats 8000000
theorem rdrop_any (x : Int) (h : RefAt B R u nv mv gv r w) (hR : ∀ k, w.heap.size ≤ k → R k) (hd : 0 ≤ r.d3) (hd2 : r.d3 < 4611686018427387904) (hn : r.nums.length ≤ 2000000) (hml : r.msgs.length = r.nums.length) :
    Calls Try.prog 49 #[.pointer (some ⟨u, 0, none⟩), .int .i64 x] w (RDropMade B R u gv (dropQ r x).1 (dropQ r x).2 w) := by
  have HF : Hid (∀ c r', dropQ r x = (c, r') → ∀ e w', e = .returned (.int .i64 c) → (∃ nv' mv', RefAt B R u nv' mv' gv r' w') → Kept R w w' → RDropMade B R u gv (dropQ r x).1 (dropQ r x).2 w e w') := Lib.hid fun _ _ he _ _ h1 h2 h3 => by rw [he]; exact ⟨h1, h2, h3⟩
  have HPL := Lib.hid (rplace_any x h (by omega))
  have HN := Lib.hid h
  have HR := Lib.hid hR
  have HML := Lib.hid (And.intro hml hn)
  generalize hQ : RDropMade B R u gv (dropQ r x).1 (dropQ r x).2 w = Q at *
  clear hQ h hR hml hn
  cases hp : placeN r.nums x with
  | none =>
    have HQ := Lib.hid (HF.out 14 r (dropQ_none hp))
    rw [hp] at HPL
    unfold optI at HPL
    clear hp
    go_enter Try.func49, Try.ntmps49
    go_wp2_with fail
    refine HPL.out.mono ?_
    rintro e w' ⟨rfl, rfl⟩
    go_wp2_with fail
    exact HQ.out _ _ rfl ⟨_, _, HN.out⟩ (Kept.refl _ _)
  | some i =>
  have HQ := Lib.hid (HF.out 0 _ (dropQ_some hp))
  have n0 : decide ((i : Int) < 0) = false := decide_eq_false (by omega)
  have HRM := Lib.hid (rremove_any i HN.out HR.out (placeN_some hp) HML.out.2 HML.out.1)
  rw [hp] at HPL
  unfold optI at HPL
  clear hp
  go_enter Try.func49, Try.ntmps49
  go_wp2_with fail
  refine HPL.out.mono ?_
  rintro e w' ⟨rfl, rfl⟩
  go_wp2_with fail
  refine HRM.out.mono ?_
  rintro e w2 ⟨rfl, ⟨nv2, mv2, h2⟩, hk2⟩
  have HN2 := Lib.hid h2
  have HK2 := Lib.hid hk2
  have hwr : IntKind.i64.wrap (r.d3 + 1) = r.d3 + 1 := IntWalk.i64_in _ (by omega)
  have HBU : Hid (B ≤ u) := Lib.hid (HN2.out.parts.rb u HN2.out.parts.ru)
  have HBL : Hid (B ≤ w2.heap.size) := Lib.hid HN2.out.parts.bw
  clear h2 hk2 HPL HRM n0
  go_upto_region 5 with fail
  refine region_inv B (JS [[0, 1, 2, 3, 4, 5, 8]] [9] (IncW w2 u 9 (.int .i64 (r.d3 + 1)))) [some (.pointer (some ⟨u, 0, none⟩)), some (.pointer (some ⟨u, 0, none⟩)), some (.pointer (some ⟨u, 6, none⟩)), some (.pointer (some ⟨u, 9, none⟩)), some (.int .i64 r.d3), some (.int .i64 (r.d3 + 1)), some (.pointer (some ⟨u, 0, none⟩)), some (.pointer (some ⟨u, 6, none⟩)), some (.pointer (some ⟨u, 9, none⟩)), some (undef)] (by kernel_rfl) rfl (by kernel_rfl) (by kernel_rfl) (fun st => JS.start (fun _ => ⟨rfl, rfl, rfl, Nat.le_refl _, fun _ _ => rfl⟩) st) (.cons ?i_0 (.cons ?i_1 (.cons ?i_2 (.cons ?i_3 (.cons ?i_4 (.cons ?i_5 (.cons ?i_6 (.cons ?i_7 (.cons ?i_8 (.cons ?i_9 .nil)))))))))) ?i_fin
  case i_0 =>
    intro wq hbw D st hJ hD hdp K hK
    simp only [Act.put, List.setIfInBounds_toArray, List.set_cons_zero, List.set_cons_succ] at hK ⊢
    unfold opStep
    rw [if_pos (by rfl)]
    go_simp
    exact hK.out _ _ (Below.refl _ _) (fun u hu => Option.some.inj hu) (hJ.pure 0 _ (by rfl)) _ rfl
  case i_1 =>
    intro wq hbw D st hJ hD hdp K hK
    simp only [Act.put, List.setIfInBounds_toArray, List.set_cons_zero, List.set_cons_succ] at hK ⊢
    unfold opStep
    rw [if_pos (by rfl)]
    go_simp
    exact hK.out _ _ (Below.refl _ _) (fun u hu => Option.some.inj hu) (hJ.pure 1 _ (by rfl)) _ rfl
  case i_2 =>
    intro wq hbw D st hJ hD hdp K hK
    simp only [Act.put, List.setIfInBounds_toArray, List.set_cons_zero, List.set_cons_succ] at hK ⊢
    unfold opStep
    rw [if_pos (by rfl)]
    go_simp
    exact hK.out _ _ (Below.refl _ _) (fun u hu => Option.some.inj hu) (hJ.pure 2 _ (by rfl)) _ rfl
  case i_3 =>
    intro wq hbw D st hJ hD hdp K hK
    simp only [Act.put, List.setIfInBounds_toArray, List.set_cons_zero, List.set_cons_succ] at hK ⊢
    unfold opStep
    rw [if_pos (by rfl)]
    go_simp
    exact hK.out _ _ (Below.refl _ _) (fun u hu => Option.some.inj hu) (hJ.pure 3 _ (by rfl)) _ rfl
  case i_4 =>
    intro wq hbw D st hJ hD hdp K hK
    simp only [Act.put, List.setIfInBounds_toArray, List.set_cons_zero, List.set_cons_succ] at hK ⊢
    unfold opStep
    rw [if_pos (by rfl)]
    obtain ⟨sg, hsg, hS⟩ := hJ.le 0 (i := 4) (by rfl) hD
    obtain rfl : sg = 0 := by omega
    have hS0 : Below w2.heap.size w2 wq := hS
    have d1 : wq.cell? ⟨u, 9, none⟩ = some (.int .i64 r.d3) := (HN2.out.on hS0).box.cell 9
    go_simp
    exact hK.out _ _ (Below.refl _ _) (fun u hu => Option.some.inj hu) (hJ.pure 4 _ (by rfl)) _ rfl
  case i_5 =>
    intro wq hbw D st hJ hD hdp K hK
    simp only [Act.put, List.setIfInBounds_toArray, List.set_cons_zero, List.set_cons_succ] at hK ⊢
    unfold opStep
    rw [if_pos (by rfl)]
    go_simp
    exact hK.out _ _ (Below.refl _ _) (fun u hu => Option.some.inj hu) (hJ.pure 5 _ (by rfl)) _ rfl
  case i_6 =>
    intro wq hbw D st hJ hD hdp K hK
    simp only [Act.put, List.setIfInBounds_toArray, List.set_cons_zero, List.set_cons_succ] at hK ⊢
    unfold opStep
    rw [if_pos (by rfl)]
    go_simp
    exact hK.out _ _ (Below.refl _ _) (fun u hu => Option.some.inj hu) (hJ.pure 6 _ (by rfl)) _ rfl
  case i_7 =>
    intro wq hbw D st hJ hD hdp K hK
    simp only [Act.put, List.setIfInBounds_toArray, List.set_cons_zero, List.set_cons_succ] at hK ⊢
    unfold opStep
    rw [if_pos (by rfl)]
    go_simp
    exact hK.out _ _ (Below.refl _ _) (fun u hu => Option.some.inj hu) (hJ.pure 7 _ (by rfl)) _ rfl
  case i_8 =>
    intro wq hbw D st hJ hD hdp K hK
    simp only [Act.put, List.setIfInBounds_toArray, List.set_cons_zero, List.set_cons_succ] at hK ⊢
    unfold opStep
    rw [if_pos (by rfl)]
    go_simp
    exact hK.out _ _ (Below.refl _ _) (fun u hu => Option.some.inj hu) (hJ.pure 8 _ (by rfl)) _ rfl
  case i_9 =>
    intro wq hbw D st hJ hD hdp K hK
    simp only [Act.put, List.setIfInBounds_toArray, List.set_cons_zero, List.set_cons_succ] at hK ⊢
    unfold opStep
    rw [if_pos (by rfl)]
    have hpv : ∀ k', 0 < 0 → ([9] : List Nat)[0 - 1]? = some k' → D k' = true := fun _ h => absurd h (Nat.lt_irrefl 0)
    have hdd : ∀ i ∈ ([[0, 1, 2, 3, 4, 5, 8]] : List (List Nat)).getD 0 [], D i = true := fun i hi => hdp i ((of_decide_eq_true (by kernel_rfl) : ∀ i ∈ ([[0, 1, 2, 3, 4, 5, 8]] : List (List Nat)).getD 0 [], i ∈ depsOf _) i hi)
    have hW := hJ.here 0 9 rfl hD hpv
    have hsz := Nat.le_trans HBL.out hbw.size
    have hW0 : Below w2.heap.size w2 wq := hW
    have d1 : wq.cell? ⟨u, 9, none⟩ = some (.int .i64 r.d3) := (HN2.out.on hW0).box.cell 9
    have f1 : wq.frozen? ⟨u, 9, none⟩ = false := (HN2.out.on hW0).box.frozen 9
    have z1 : u < wq.heap.size := (HN2.out.on hW0).box.lt
    go_simp
    exact hK.out _ _ ((Below.refl _ _).setCell (p := ⟨u, 9, none⟩) HBU.out _) (fun u hu => Option.some.inj hu) (hJ.step 0 9 _ rfl hD hpv hdd (of_decide_eq_true (by kernel_rfl)) ⟨wq, hW0, rfl⟩) _ rfl
  case i_fin =>
    intro wq hbw D st hall hJ
    simp only [FinAll, lfOf]
    simp only [Act.put, List.setIfInBounds_toArray, List.set_cons_zero, List.set_cons_succ]
    have hW := hJ.done (fun k hk => by simp at hk; subst hk; exact hall _ (by decide))
    clear hJ hall
    obtain ⟨w0, hb0, rfl⟩ := hW
    clear hbw
    have HN3 : Hid (RefAt B R u nv2 mv2 gv { remQ r i with d3 := r.d3 + 1 } (w0.setCell ⟨u, 9, none⟩ (.int .i64 (r.d3 + 1)))) := Lib.hid ((HN2.out.on hb0).set 9 _ rfl rfl rfl rfl)
    have HK3 : Hid (Kept R w2 (w0.setCell ⟨u, 9, none⟩ (.int .i64 (r.d3 + 1)))) := Lib.hid ((Kept.of hb0).trans (Kept.set (S := R) (p := ⟨u, 9, none⟩) _ HN2.out.parts.ru))
    clear hb0
    go_wp2_with fail
    exact HQ.out _ _ rfl ⟨_, _, HN3.out⟩ (HK2.out.trans HK3.out)
theorem rpeek_any (x : Int) (h : RefAt B R u nv mv gv r w) (hn : r.nums.length ≤ 2000000) (hml : r.msgs.length = r.nums.length) :
    Calls Try.prog 53 #[.pointer (some ⟨u, 0, none⟩), .int .i64 x] w (RPeekMade B (peekQ r x).1 (peekQ r x).2 w) := by
  have HF : Hid (∀ m c, peekQ r x = (m, c) → ∀ (cs : List Value) e w', e = .returned (.tuple #[.agg cs.toArray, .int .i64 c]) → Below w.heap.size w w' → CellsD (fun k => k < B) w' cs (msgD m) → RPeekMade B (peekQ r x).1 (peekQ r x).2 w e w') := Lib.hid fun _ _ he cs _ _ h1 h2 h3 => by rw [he]; exact ⟨cs, h1, h2, h3⟩
  have HZL : Hid (zeroC.length = 15) := Lib.hid rfl
  have HZ1 : Hid (zeroC.toArray.all (·.oneCell') = true) := Lib.hid (CellsD.all (zero_cells (fun _ => True) w))
  have HB : Hid (Blk (w.alloc (.cells zeroC.toArray 39)) w.heap.size 39 zeroC.toArray ∧ Below w.heap.size w (w.alloc (.cells zeroC.toArray 39)) ∧ (w.alloc (.cells zeroC.toArray 39)).heap.size = w.heap.size + 1) := Lib.hid ⟨Blk.new w _ _, (Below.refl _ _).alloc (Nat.le_refl _) _, World.size_alloc _ _⟩
  have HUL : Hid (u < w.heap.size ∧ B ≤ w.heap.size) := Lib.hid ⟨h.box.lt, h.parts.bw⟩
  have HPL := Lib.hid fun W hw => rplace_any (w := W) x (h.on hw) (by omega)
  have HN := Lib.hid h
  have HML := Lib.hid (And.intro hml hn)
  generalize hQ : RPeekMade B (peekQ r x).1 (peekQ r x).2 w = Q at *
  clear hQ h hml hn
  cases hp : placeN r.nums x with
  | none =>
    have HQ := Lib.hid (HF.out zeroM 14 (peekQ_none hp))
    have HP := Lib.hid hp
    clear hp
    go_enter Try.func53, Try.ntmps53
    go_upto_region 1 with fail
    change Code.wp _ _ _ _ (w.alloc (.cells zeroC.toArray 39))
    generalize hw1 : World.alloc w _ = w1 at HB ⊢
    clear hw1
    have HCL := Lib.hid (HPL.out w1 HB.out.2.1)
    rw [HP.out] at HCL
    unfold optI at HCL
    clear HPL
    go_wp2_with (first | fail)
    refine HCL.out.mono ?_
    rintro e w' ⟨rfl, rfl⟩
    clear HCL
    go_wp2_with (refine wpList_store_msg rfl (.tmp 4) (.tmp 12) rfl w.heap.size zeroC.toArray zeroC rfl rfl HB.out.1 rfl HZL.out HZ1.out ?_; intro w4 hB4 hk4)
    have HL := Lib.hid (load_msg hB4 HZL.out)
    have HG : Hid (Below w.heap.size w w4) := Lib.hid (HB.out.2.1.trans (hk4.below HB.out.2.1.size fun k hk e => by omega))
    clear hB4 hk4
    go_wp2
    refine bodyPost_ret (results_cell2 rfl rfl HL.out rfl) rfl ?_
    exact HQ.out zeroC _ _ rfl HG.out (zero_cells _ _)
  | some i =>
  have HQ := Lib.hid (HF.out _ 0 (peekQ_some hp))
  have HP := Lib.hid hp
  have HI := Lib.hid (placeN_some hp)
  have n0 : decide ((i : Int) < 0) = false := decide_eq_false (by omega)
  have hi0 : (0 : Int) ≤ (i : Int) := by omega
  have hi1 : (i : Int) < r.msgs.length := by have := HI.out; have := HML.out; omega
  have hm64 : (r.msgs.length : Int) ≤ 2000000 := by have := HML.out; omega
  clear hp
  go_enter Try.func53, Try.ntmps53
  go_upto_region 1 with fail
  change Code.wp _ _ _ _ (w.alloc (.cells zeroC.toArray 39))
  generalize hw1 : World.alloc w _ = w1 at HB ⊢
  clear hw1
  have HCL := Lib.hid (HPL.out w1 HB.out.2.1)
  rw [HP.out] at HCL
  unfold optI at HCL
  clear HPL
  go_wp2_with fail
  refine HCL.out.mono ?_
  rintro e w' ⟨rfl, rfl⟩
  rename World => w2
  clear HCL
  obtain ⟨kg, kcap, ks, rfl, hkg, hkr, hkm, hkl⟩ := (HN.out.on HB.out.2.1).msg (k := i) (by have := HML.out; have := HI.out; omega)
  have HKR := Lib.hid (And.intro hkr hkl)
  have HKM := Lib.hid (And.intro hkm hkg)
  have HONE := Lib.hid (CellsD.all hkm)
  have d2 : w2.cell? ⟨u, 2, none⟩ = some (.slice (some ⟨kg, 0, none⟩) r.msgs.length kcap) := (HN.out.on HB.out.2.1).box.cell 2
  clear hkr hkm hkl hkg
  go_wp2_with (first | (refine wpList_load_mid rfl 39 (.tmp 18) rfl kg (i * 15) rfl ks _ HKR.out.1 Try.underlying39 rfl (by rw [HKR.out.2]; kernel_rfl) ?_) | (refine wpList_store_msg rfl (.tmp 4) (.tmp 19) rfl w.heap.size zeroC.toArray ks rfl rfl HB.out.1 rfl HKR.out.2 HONE.out ?_; intro w4 hB4 hk4))
  have HL := Lib.hid (load_msg hB4 HKR.out.2)
  have HG : Hid (Below w.heap.size w w4 ∧ CellsD (fun k => k < B) w4 ks (msgD (msgQ r i))) := Lib.hid ⟨HB.out.2.1.trans (hk4.below HB.out.2.1.size fun k hk e => by omega), cells_keep HKM.out.1 hk4.size fun b hb hlt => hk4.block b hlt (by have := HUL.out; omega)⟩
  clear hB4 hk4
  go_wp2
  refine bodyPost_ret (results_cell2 rfl rfl HL.out rfl) rfl ?_
  exact HQ.out ks _ _ rfl HG.out.1 HG.out.2
theorem rdeliver_any (x : Int) (h : RefAt B R u nv mv gv r w) (hR : ∀ k, w.heap.size ≤ k → R k) (hd : 0 ≤ r.d2) (hd2 : r.d2 < 4611686018427387904) (hn : r.nums.length ≤ 2000000) (hml : r.msgs.length = r.nums.length) :
    Calls Try.prog 48 #[.pointer (some ⟨u, 0, none⟩), .int .i64 x] w (RDelMade B R u gv (delQ r x).1 (delQ r x).2.1 (delQ r x).2.2 w) := by
  have HF : Hid (∀ m c r', delQ r x = (m, c, r') → ∀ (cs : List Value) e w', e = .returned (.tuple #[.agg cs.toArray, .int .i64 c]) → (∃ nv' mv', RefAt B R u nv' mv' gv r' w') → Kept R w w' → CellsD (fun k => k < B) w' cs (msgD m) → RDelMade B R u gv (delQ r x).1 (delQ r x).2.1 (delQ r x).2.2 w e w') := Lib.hid fun _ _ _ he cs _ _ h1 h2 h3 h4 => by rw [he]; exact ⟨cs, h1, h2, h3, h4⟩
  have HZL : Hid (zeroC.length = 15) := Lib.hid rfl
  have HZ1 : Hid (zeroC.toArray.all (·.oneCell') = true) := Lib.hid (CellsD.all (zero_cells (fun _ => True) w))
  have HB : Hid (Blk (w.alloc (.cells zeroC.toArray 39)) w.heap.size 39 zeroC.toArray ∧ Below w.heap.size w (w.alloc (.cells zeroC.toArray 39)) ∧ (w.alloc (.cells zeroC.toArray 39)).heap.size = w.heap.size + 1) := Lib.hid ⟨Blk.new w _ _, (Below.refl _ _).alloc (Nat.le_refl _) _, World.size_alloc _ _⟩
  have HUL : Hid (u < w.heap.size ∧ B ≤ w.heap.size) := Lib.hid ⟨h.box.lt, h.parts.bw⟩
  have HPL := Lib.hid fun W hw => rplace_any (w := W) x (h.on hw) (by omega)
  have HN := Lib.hid h
  have HR := Lib.hid hR
  have HML := Lib.hid (And.intro hml hn)
  generalize hQ : RDelMade B R u gv (delQ r x).1 (delQ r x).2.1 (delQ r x).2.2 w = Q at *
  clear hQ h hR hml hn
  cases hp : placeN r.nums x with
  | none =>
    have HQ := Lib.hid (HF.out zeroM 14 r (delQ_none hp))
    have HP := Lib.hid hp
    clear hp hd hd2
    go_enter Try.func48, Try.ntmps48
    go_upto_region 1 with fail
    change Code.wp _ _ _ _ (w.alloc (.cells zeroC.toArray 39))
    generalize hw1 : World.alloc w _ = w1 at HB ⊢
    clear hw1
    have HCL := Lib.hid (HPL.out w1 HB.out.2.1)
    rw [HP.out] at HCL
    unfold optI at HCL
    clear HPL
    go_wp2_with (first | fail)
    refine HCL.out.mono ?_
    rintro e w' ⟨rfl, rfl⟩
    clear HCL
    go_wp2_with (refine wpList_store_msg rfl (.tmp 4) (.tmp 13) rfl w.heap.size zeroC.toArray zeroC rfl rfl HB.out.1 rfl HZL.out HZ1.out ?_; intro w4 hB4 hk4)
    have HL := Lib.hid (load_msg hB4 HZL.out)
    have HG : Hid (Below w.heap.size w w4) := Lib.hid (HB.out.2.1.trans (hk4.below HB.out.2.1.size fun k hk e => by omega))
    clear hB4 hk4
    go_wp2
    refine bodyPost_ret (results_cell2 rfl rfl HL.out rfl) rfl ?_
    exact HQ.out zeroC _ _ rfl ⟨_, _, HN.out.on HG.out⟩ (Kept.of HG.out) (zero_cells _ _)
  | some i =>
  have HP := Lib.hid hp
  have HI := Lib.hid (placeN_some hp)
  have n0 : decide ((i : Int) < 0) = false := decide_eq_false (by omega)
  have hi0 : (0 : Int) ≤ (i : Int) := by omega
  have hi1 : (i : Int) < r.msgs.length := by have := HI.out; have := HML.out; omega
  have hm64 : (r.msgs.length : Int) ≤ 2000000 := by have := HML.out; omega
  clear hp
  cases hcon : rconnB r.split r.gs (msgQ r i).frm (msgQ r i).to with
  | false =>
    have HQ := Lib.hid (HF.out _ 9 r (delQ_no HP.out hcon))
    have HCON := Lib.hid hcon
    clear hcon
    go_enter Try.func48, Try.ntmps48
    go_upto_region 1 with fail
    change Code.wp _ _ _ _ (w.alloc (.cells zeroC.toArray 39))
    generalize hw1 : World.alloc w _ = w1 at HB ⊢
    clear hw1
    have HCL := Lib.hid (HPL.out w1 HB.out.2.1)
    rw [HP.out] at HCL
    unfold optI at HCL
    clear HPL
    go_wp2_with fail
    refine HCL.out.mono ?_
    rintro e w' ⟨rfl, rfl⟩
    rename World => w2
    clear HCL
    obtain ⟨kg, kcap, ks, rfl, hkg, hkr, hkm, hkl⟩ := (HN.out.on HB.out.2.1).msg (k := i) (by have := HML.out; have := HI.out; omega)
    have HKR := Lib.hid (And.intro hkr hkl)
    have HKM := Lib.hid (And.intro hkm hkg)
    have HONE := Lib.hid (CellsD.all hkm)
    have d2 : w2.cell? ⟨u, 2, none⟩ = some (.slice (some ⟨kg, 0, none⟩) r.msgs.length kcap) := (HN.out.on HB.out.2.1).box.cell 2
    clear hkr hkm hkl hkg
    have HS : Hid (Blk (w2.alloc (.cells zeroC.toArray 39)) w2.heap.size 39 zeroC.toArray) := Lib.hid (Blk.new w2 _ _)
    go_upto_region 5 with (first | (refine wpList_load_mid rfl 39 (.tmp 19) rfl kg (i * 15) rfl ks _ HKR.out.1 Try.underlying39 rfl (by rw [HKR.out.2]; kernel_rfl) ?_) | (refine wpList_store_msg rfl (.tmp 7) (.tmp 20) rfl w2.heap.size zeroC.toArray ks rfl rfl HS.out rfl HKR.out.2 HONE.out ?_; intro w3 hB3 hk3))
    have H23 : Hid (Below w2.heap.size w2 w3) := Lib.hid (((Kept.of ((Below.refl w2.heap.size w2).alloc (Nat.le_refl _) (.cells zeroC.toArray 39)) : Kept (fun b => b = w2.heap.size) w2 _).trans hk3).below (Nat.le_refl _) fun k hk e => by omega)
    have HB3 : Hid (Blk w3 w.heap.size 39 zeroC.toArray ∧ Below w.heap.size w w3 ∧ Blk w3 w2.heap.size 39 ks.toArray ∧ w2.heap.size = w.heap.size + 1 ∧ CellsD (fun k => k < B) w3 ks (msgD (msgQ r i))) := Lib.hid ⟨HB.out.1.on H23.out, HB.out.2.1.trans (H23.out.mono HB.out.2.1.size), hB3, HB.out.2.2, HKM.out.1.on H23.out⟩
    have HFT := Lib.hid (msg_ft HB3.out.2.2.2.2)
    clear hB3 hk3 HS H23 HKM d2 HB
    have d1 : w3.cell? ⟨w2.heap.size, 1, none⟩ = some (.int .i64 (msgQ r i).frm) := by rw [HB3.out.2.2.1.cell, List.getElem?_toArray]; exact HFT.out.1
    have d2 : w3.cell? ⟨w2.heap.size, 2, none⟩ = some (.int .i64 (msgQ r i).to) := by rw [HB3.out.2.2.1.cell, List.getElem?_toArray]; exact HFT.out.2.1
    have HCN := Lib.hid (rconnected_any (msgQ r i).frm (msgQ r i).to (HN.out.on HB3.out.2.1))
    rw [HCON.out] at HCN
    go_wp2_with fail
    refine HCN.out.mono ?_
    rintro e w3' ⟨rfl, rfl⟩
    rename World => w4
    clear d1 d2 HCN
    go_wp2_with (refine wpList_store_msg rfl (.tmp 4) (.tmp 28) rfl w.heap.size zeroC.toArray zeroC rfl rfl HB3.out.1 rfl HZL.out HZ1.out ?_; intro w5 hB5 hk5)
    have HL := Lib.hid (load_msg hB5 HZL.out)
    have HG : Hid (Below w.heap.size w w5) := Lib.hid (HB3.out.2.1.trans (hk5.below HB3.out.2.1.size fun k hk e => by omega))
    clear hB5 hk5
    go_wp2
    refine bodyPost_ret (results_cell2 rfl rfl HL.out rfl) rfl ?_
    exact HQ.out zeroC _ _ rfl ⟨_, _, HN.out.on HG.out⟩ (Kept.of HG.out) (zero_cells _ _)
  | true =>
    have HQ := Lib.hid (HF.out _ 0 _ (delQ_yes HP.out hcon))
    have HCON := Lib.hid hcon
    clear hcon
    go_enter Try.func48, Try.ntmps48
    go_upto_region 1 with fail
    change Code.wp _ _ _ _ (w.alloc (.cells zeroC.toArray 39))
    generalize hw1 : World.alloc w _ = w1 at HB ⊢
    clear hw1
    have HCL := Lib.hid (HPL.out w1 HB.out.2.1)
    rw [HP.out] at HCL
    unfold optI at HCL
    clear HPL
    go_wp2_with fail
    refine HCL.out.mono ?_
    rintro e w' ⟨rfl, rfl⟩
    rename World => w2
    clear HCL
    obtain ⟨kg, kcap, ks, rfl, hkg, hkr, hkm, hkl⟩ := (HN.out.on HB.out.2.1).msg (k := i) (by have := HML.out; have := HI.out; omega)
    have HKR := Lib.hid (And.intro hkr hkl)
    have HKM := Lib.hid (And.intro hkm hkg)
    have HONE := Lib.hid (CellsD.all hkm)
    have d2 : w2.cell? ⟨u, 2, none⟩ = some (.slice (some ⟨kg, 0, none⟩) r.msgs.length kcap) := (HN.out.on HB.out.2.1).box.cell 2
    clear hkr hkm hkl hkg
    have HS : Hid (Blk (w2.alloc (.cells zeroC.toArray 39)) w2.heap.size 39 zeroC.toArray) := Lib.hid (Blk.new w2 _ _)
    go_upto_region 5 with (first | (refine wpList_load_mid rfl 39 (.tmp 19) rfl kg (i * 15) rfl ks _ HKR.out.1 Try.underlying39 rfl (by rw [HKR.out.2]; kernel_rfl) ?_) | (refine wpList_store_msg rfl (.tmp 7) (.tmp 20) rfl w2.heap.size zeroC.toArray ks rfl rfl HS.out rfl HKR.out.2 HONE.out ?_; intro w3 hB3 hk3))
    have H23 : Hid (Below w2.heap.size w2 w3) := Lib.hid (((Kept.of ((Below.refl w2.heap.size w2).alloc (Nat.le_refl _) (.cells zeroC.toArray 39)) : Kept (fun b => b = w2.heap.size) w2 _).trans hk3).below (Nat.le_refl _) fun k hk e => by omega)
    have HB3 : Hid (Blk w3 w.heap.size 39 zeroC.toArray ∧ Below w.heap.size w w3 ∧ Blk w3 w2.heap.size 39 ks.toArray ∧ w2.heap.size = w.heap.size + 1 ∧ CellsD (fun k => k < B) w3 ks (msgD (msgQ r i))) := Lib.hid ⟨HB.out.1.on H23.out, HB.out.2.1.trans (H23.out.mono HB.out.2.1.size), hB3, HB.out.2.2, HKM.out.1.on H23.out⟩
    have HFT := Lib.hid (msg_ft HB3.out.2.2.2.2)
    clear hB3 hk3 HS H23 HKM d2 HB
    have d1 : w3.cell? ⟨w2.heap.size, 1, none⟩ = some (.int .i64 (msgQ r i).frm) := by rw [HB3.out.2.2.1.cell, List.getElem?_toArray]; exact HFT.out.1
    have d2 : w3.cell? ⟨w2.heap.size, 2, none⟩ = some (.int .i64 (msgQ r i).to) := by rw [HB3.out.2.2.1.cell, List.getElem?_toArray]; exact HFT.out.2.1
    have HCN := Lib.hid (rconnected_any (msgQ r i).frm (msgQ r i).to (HN.out.on HB3.out.2.1))
    rw [HCON.out] at HCN
    go_wp2_with fail
    refine HCN.out.mono ?_
    rintro e w3' ⟨rfl, rfl⟩
    rename World => w4
    clear d1 d2 HCN
    have HN4 : Hid (RefAt B (fun k => R k ∧ k ≠ w.heap.size ∧ k ≠ w2.heap.size) u nv (.slice (some ⟨kg, 0, none⟩) r.msgs.length kcap) gv r w4) := Lib.hid ((HN.out.mono (R' := fun k => R k ∧ k ≠ w.heap.size ∧ k ≠ w2.heap.size) (fun k hk hlt => ⟨hk, by have := HB3.out.2.2.2.1; omega, by have := HB3.out.2.2.2.1; omega⟩) fun k hk => HN.out.parts.rb k hk.1).on HB3.out.2.1)
    have HLT4 := Lib.hid HB3.out.2.2.1.lt
    have HRM := Lib.hid (rremove_any i HN4.out (fun k hk => ⟨HR.out k (by have := HB3.out.2.1.size; omega), by have := HB3.out.2.2.2.1; have := HLT4.out; omega, by have := HLT4.out; omega⟩) HI.out HML.out.2 HML.out.1)
    go_wp2_with fail
    refine HRM.out.mono ?_
    rintro e w5 ⟨rfl, ⟨nv5, mv5, h5⟩, hk5⟩
    have HN5 := Lib.hid h5
    have HB5 : Hid (Blk w5 w.heap.size 39 zeroC.toArray ∧ Kept R w w5 ∧ Blk w5 w2.heap.size 39 ks.toArray ∧ w2.heap.size = w.heap.size + 1 ∧ CellsD (fun k => k < B) w5 ks (msgD (msgQ r i))) := Lib.hid ⟨hk5.blk HB3.out.1 fun e => e.2.1 rfl, (Kept.of HB3.out.2.1).trans (hk5.mono fun k _ e => e.1), hk5.blk HB3.out.2.2.1 fun e => e.2.2 rfl, HB3.out.2.2.2.1, cells_keep HB3.out.2.2.2.2 hk5.size fun b hb hlt => hk5.block b hlt fun e => by have := HN4.out.parts.rb b e; omega⟩
    have hwr : IntKind.i64.wrap (r.d2 + 1) = r.d2 + 1 := IntWalk.i64_in _ (by omega)
    have HBU : Hid (B ≤ u) := Lib.hid (HN5.out.parts.rb u HN5.out.parts.ru)
    have HBL : Hid (B ≤ w5.heap.size) := Lib.hid HN5.out.parts.bw
    clear h5 hk5 HRM n0 HB3 HN4 HLT4
    go_upto_region 8 with fail
    refine region_inv B (JS [[0, 1, 2, 3, 4, 5, 8]] [9] (IncW w5 u 8 (.int .i64 (r.d2 + 1)))) [some (.pointer (some ⟨u, 0, none⟩)), some (.pointer (some ⟨u, 0, none⟩)), some (.pointer (some ⟨u, 6, none⟩)), some (.pointer (some ⟨u, 8, none⟩)), some (.int .i64 r.d2), some (.int .i64 (r.d2 + 1)), some (.pointer (some ⟨u, 0, none⟩)), some (.pointer (some ⟨u, 6, none⟩)), some (.pointer (some ⟨u, 8, none⟩)), some (undef)] (by kernel_rfl) rfl (by kernel_rfl) (by kernel_rfl) (fun st => JS.start (fun _ => ⟨rfl, rfl, rfl, Nat.le_refl _, fun _ _ => rfl⟩) st) (.cons ?i_0 (.cons ?i_1 (.cons ?i_2 (.cons ?i_3 (.cons ?i_4 (.cons ?i_5 (.cons ?i_6 (.cons ?i_7 (.cons ?i_8 (.cons ?i_9 .nil)))))))))) ?i_fin
    case i_0 =>
      intro wq hbw D st hJ hD hdp K hK
      simp only [Act.put, List.setIfInBounds_toArray, List.set_cons_zero, List.set_cons_succ] at hK ⊢
      unfold opStep
      rw [if_pos (by rfl)]
      go_simp
      exact hK.out _ _ (Below.refl _ _) (fun u hu => Option.some.inj hu) (hJ.pure 0 _ (by rfl)) _ rfl
    case i_1 =>
      intro wq hbw D st hJ hD hdp K hK
      simp only [Act.put, List.setIfInBounds_toArray, List.set_cons_zero, List.set_cons_succ] at hK ⊢
      unfold opStep
      rw [if_pos (by rfl)]
      go_simp
      exact hK.out _ _ (Below.refl _ _) (fun u hu => Option.some.inj hu) (hJ.pure 1 _ (by rfl)) _ rfl
    case i_2 =>
      intro wq hbw D st hJ hD hdp K hK
      simp only [Act.put, List.setIfInBounds_toArray, List.set_cons_zero, List.set_cons_succ] at hK ⊢
      unfold opStep
      rw [if_pos (by rfl)]
      go_simp
      exact hK.out _ _ (Below.refl _ _) (fun u hu => Option.some.inj hu) (hJ.pure 2 _ (by rfl)) _ rfl
    case i_3 =>
      intro wq hbw D st hJ hD hdp K hK
      simp only [Act.put, List.setIfInBounds_toArray, List.set_cons_zero, List.set_cons_succ] at hK ⊢
      unfold opStep
      rw [if_pos (by rfl)]
      go_simp
      exact hK.out _ _ (Below.refl _ _) (fun u hu => Option.some.inj hu) (hJ.pure 3 _ (by rfl)) _ rfl
    case i_4 =>
      intro wq hbw D st hJ hD hdp K hK
      simp only [Act.put, List.setIfInBounds_toArray, List.set_cons_zero, List.set_cons_succ] at hK ⊢
      unfold opStep
      rw [if_pos (by rfl)]
      obtain ⟨sg, hsg, hS⟩ := hJ.le 0 (i := 4) (by rfl) hD
      obtain rfl : sg = 0 := by omega
      have hS0 : Below w5.heap.size w5 wq := hS
      have d1 : wq.cell? ⟨u, 8, none⟩ = some (.int .i64 r.d2) := (HN5.out.on hS0).box.cell 8
      go_simp
      exact hK.out _ _ (Below.refl _ _) (fun u hu => Option.some.inj hu) (hJ.pure 4 _ (by rfl)) _ rfl
    case i_5 =>
      intro wq hbw D st hJ hD hdp K hK
      simp only [Act.put, List.setIfInBounds_toArray, List.set_cons_zero, List.set_cons_succ] at hK ⊢
      unfold opStep
      rw [if_pos (by rfl)]
      go_simp
      exact hK.out _ _ (Below.refl _ _) (fun u hu => Option.some.inj hu) (hJ.pure 5 _ (by rfl)) _ rfl
    case i_6 =>
      intro wq hbw D st hJ hD hdp K hK
      simp only [Act.put, List.setIfInBounds_toArray, List.set_cons_zero, List.set_cons_succ] at hK ⊢
      unfold opStep
      rw [if_pos (by rfl)]
      go_simp
      exact hK.out _ _ (Below.refl _ _) (fun u hu => Option.some.inj hu) (hJ.pure 6 _ (by rfl)) _ rfl
    case i_7 =>
      intro wq hbw D st hJ hD hdp K hK
      simp only [Act.put, List.setIfInBounds_toArray, List.set_cons_zero, List.set_cons_succ] at hK ⊢
      unfold opStep
      rw [if_pos (by rfl)]
      go_simp
      exact hK.out _ _ (Below.refl _ _) (fun u hu => Option.some.inj hu) (hJ.pure 7 _ (by rfl)) _ rfl
    case i_8 =>
      intro wq hbw D st hJ hD hdp K hK
      simp only [Act.put, List.setIfInBounds_toArray, List.set_cons_zero, List.set_cons_succ] at hK ⊢
      unfold opStep
      rw [if_pos (by rfl)]
      go_simp
      exact hK.out _ _ (Below.refl _ _) (fun u hu => Option.some.inj hu) (hJ.pure 8 _ (by rfl)) _ rfl
    case i_9 =>
      intro wq hbw D st hJ hD hdp K hK
      simp only [Act.put, List.setIfInBounds_toArray, List.set_cons_zero, List.set_cons_succ] at hK ⊢
      unfold opStep
      rw [if_pos (by rfl)]
      have hpv : ∀ k', 0 < 0 → ([9] : List Nat)[0 - 1]? = some k' → D k' = true := fun _ h => absurd h (Nat.lt_irrefl 0)
      have hdd : ∀ i ∈ ([[0, 1, 2, 3, 4, 5, 8]] : List (List Nat)).getD 0 [], D i = true := fun i hi => hdp i ((of_decide_eq_true (by kernel_rfl) : ∀ i ∈ ([[0, 1, 2, 3, 4, 5, 8]] : List (List Nat)).getD 0 [], i ∈ depsOf _) i hi)
      have hW := hJ.here 0 9 rfl hD hpv
      have hsz := Nat.le_trans HBL.out hbw.size
      have hW0 : Below w5.heap.size w5 wq := hW
      have d1 : wq.cell? ⟨u, 8, none⟩ = some (.int .i64 r.d2) := (HN5.out.on hW0).box.cell 8
      have f1 : wq.frozen? ⟨u, 8, none⟩ = false := (HN5.out.on hW0).box.frozen 8
      have z1 : u < wq.heap.size := (HN5.out.on hW0).box.lt
      go_simp
      exact hK.out _ _ ((Below.refl _ _).setCell (p := ⟨u, 8, none⟩) HBU.out _) (fun u hu => Option.some.inj hu) (hJ.step 0 9 _ rfl hD hpv hdd (of_decide_eq_true (by kernel_rfl)) ⟨wq, hW0, rfl⟩) _ rfl
    case i_fin =>
      intro wq hbw D st hall hJ
      simp only [FinAll, lfOf]
      simp only [Act.put, List.setIfInBounds_toArray, List.set_cons_zero, List.set_cons_succ]
      have hW := hJ.done (fun k hk => by simp at hk; subst hk; exact hall _ (by decide))
      clear hJ hall
      obtain ⟨w0, hb0, rfl⟩ := hW
      clear hbw
      have HN6 : Hid (RefAt B (fun k => R k ∧ k ≠ w.heap.size ∧ k ≠ w2.heap.size) u nv5 mv5 gv { remQ r i with d2 := r.d2 + 1 } (w0.setCell ⟨u, 8, none⟩ (.int .i64 (r.d2 + 1)))) := Lib.hid ((HN5.out.on hb0).set 8 _ rfl rfl rfl rfl)
      have HK6 : Hid (Kept (fun k => k = u) w5 (w0.setCell ⟨u, 8, none⟩ (.int .i64 (r.d2 + 1)))) := Lib.hid ((Kept.of hb0).trans (Kept.set (S := fun k => k = u) (p := ⟨u, 8, none⟩) _ rfl))
      clear hb0
      go_upto_region 9 with fail
      generalize World.setCell w0 _ _ = w6 at HN6 HK6 ⊢
      have HB6 : Hid (Blk w6 w.heap.size 39 zeroC.toArray ∧ Kept R w w6 ∧ Blk w6 w2.heap.size 39 ks.toArray ∧ CellsD (fun k => k < B) w6 ks (msgD (msgQ r i))) := Lib.hid ⟨HK6.out.blk HB5.out.1 (by have := HUL.out; omega), HB5.out.2.1.trans (HK6.out.mono fun k _ e => e ▸ HN.out.parts.ru), HK6.out.blk HB5.out.2.2.1 (by have := HUL.out; have := HB5.out.2.2.2.1; omega), cells_keep HB5.out.2.2.2.2 HK6.out.size fun b hb hlt => HK6.out.block b hlt fun e => by have := HBU.out; omega⟩
      go_wp2_with (first | (refine wpList_load_msg rfl (.tmp 7) rfl w2.heap.size ks rfl HB6.out.2.2.1 HKR.out.2 ?_) | (refine wpList_store_msg rfl (.tmp 4) (.tmp 41) rfl w.heap.size zeroC.toArray ks rfl rfl HB6.out.1 rfl HKR.out.2 HONE.out ?_; intro w7 hB7 hk7))
      have HL := Lib.hid (load_msg hB7 HKR.out.2)
      have HG : Hid (RefAt B R u nv5 mv5 gv { remQ r i with d2 := r.d2 + 1 } w7 ∧ Kept R w w7 ∧ CellsD (fun k => k < B) w7 ks (msgD (msgQ r i))) := Lib.hid ⟨(HN6.out.kept hk7 fun k e q => by
          subst e
          rcases q with q | q
          · have := HUL.out; omega
          · exact q.2.1 rfl).mono (fun k hk _ => hk.1) fun k hk => HN.out.parts.rb k hk, HB6.out.2.1.trans (hk7.mono fun k _ e => HR.out k (by omega)), cells_keep HB6.out.2.2.2 hk7.size fun b hb hlt => hk7.block b hlt (by have := HUL.out; omega)⟩
      clear hB7 hk7
      go_wp2
      refine bodyPost_ret (results_cell2 rfl rfl HL.out rfl) rfl ?_
      exact HQ.out ks _ _ rfl ⟨_, _, HG.out.1⟩ HG.out.2.1 HG.out.2.2
end
end Go.Proofs.Ytmcdmcnbnnfhnaa
namespace Go.Proofs.Ytmcdmcnbnnfhnaa
open Go.RowKit
set_option maxRecDepth 100000

def RHealMade (B : Nat) (R : Nat → Prop) (u : Nat) (nv mv : Value) (r' : RefS) (w : World) (e : Ending) (w' : World) : Prop := e = .returned (.tuple #[]) ∧ RefAt B R u nv mv (.slice none 0 0) r' w' ∧ Kept R w w'
def RPartMade (B : Nat) (R : Nat → Prop) (u : Nat) (nv mv : Value) (c : Int) (r' : RefS) (w : World) (e : Ending) (w' : World) : Prop := e = .returned (.int .i64 c) ∧ (∃ gv', RefAt B R u nv mv gv' r' w') ∧ Kept R w w'
def RCountsMade (r : RefS) (w : World) (e : Ending) (w' : World) : Prop := e = .returned (.agg #[.int .i64 r.d0, .int .i64 r.d1, .int .i64 r.d2, .int .i64 r.d3, .int .i64 (r.nums.length : Int)]) ∧ Below w.heap.size w w'
def RDelvMade (L : List Int) (w : World) (e : Ending) (w' : World) : Prop := ∃ v : Value, e = .returned v ∧ Reads vi w' v L ∧ Below w.heap.size w w'
section
variable {B u : Nat} {R : Nat → Prop} {nv mv gv : Value} {r : RefS} {w : World}
theorem RefAt.setG (h : RefAt B R u nv mv gv r w) {gv' : Value} {gs' : List (List GI)} (hg : GrpR B (fun k => R k ∧ k ≠ u ∧ nv.ownBlock ≠ some k ∧ mv.ownBlock ≠ some k) w gv' gs') : RefAt B R u nv mv gv' { r with gs := gs' } (w.setCell ⟨u, 5, none⟩ gv') :=
  ⟨h.box.set_ 5 gv', (h.parts.setG hg).box 5 gv'⟩
set_option maxHeartbeats 8000000
theorem rheal_any (h : RefAt B R u nv mv gv r w) : Calls Try.prog 52 #[.pointer (some ⟨u, 0, none⟩)] w (RHealMade B R u nv mv (healQ r) w) := by
  have HF : Hid (∀ e w', e = .returned (.tuple #[]) → RefAt B R u nv mv (.slice none 0 0) (healQ r) w' → Kept R w w' → RHealMade B R u nv mv (healQ r) w e w') := Lib.hid fun _ _ h1 h2 h3 => ⟨h1, h2, h3⟩
  obtain ⟨ao, cap, rfl, -⟩ := ReadsD.slc (show ReadsD _ _ gv (.ls 1 _) from h.parts.grp.reads)
  have d4 : w.cell? ⟨u, 4, none⟩ = some (.bool r.split) := h.box.cell 4
  have f4 : w.frozen? ⟨u, 4, none⟩ = false := h.box.frozen 4
  have HN4 : Hid (RefAt B R u nv mv _ { r with split := false } (w.setCell ⟨u, 4, none⟩ (.bool false))) := Lib.hid (h.set (r' := { r with split := false }) 4 (.bool false) rfl rfl rfl rfl)
  have d5 : (w.setCell ⟨u, 4, none⟩ (.bool false)).cell? ⟨u, 5, none⟩ = some _ := HN4.out.box.cell 5
  have f5 : (w.setCell ⟨u, 4, none⟩ (.bool false)).frozen? ⟨u, 5, none⟩ = false := HN4.out.box.frozen 5
  have z1 : u < w.heap.size := h.box.lt
  have z2 : u < (w.setCell ⟨u, 4, none⟩ (.bool false)).heap.size := HN4.out.box.lt
  have HN5 : Hid (RefAt B R u nv mv (.slice none 0 0) (healQ r) ((w.setCell ⟨u, 4, none⟩ (.bool false)).setCell ⟨u, 5, none⟩ (.slice none 0 0))) := Lib.hid (HN4.out.setG (gs' := []) (.inl (.nil 1 none 0 (by simp [maxLen]) fun _ => rfl)))
  have HK : Hid (Kept R w ((w.setCell ⟨u, 4, none⟩ (.bool false)).setCell ⟨u, 5, none⟩ (.slice none 0 0))) := Lib.hid ((Kept.set (S := R) (p := ⟨u, 4, none⟩) _ h.parts.ru).trans (Kept.set (S := R) (p := ⟨u, 5, none⟩) _ h.parts.ru))
  generalize hQ : RHealMade B R u nv mv (healQ r) w = Q at *
  clear hQ h HN4
  go_enter Try.func52, Try.ntmps52
  go_upto_region 1 with fail
  generalize World.setCell w _ _ = w2 at d5 f5 z2 HN5 HK ⊢
  go_wp2
  go_end0
  exact HF.out _ _ rfl HN5.out HK.out
/-- Which processes were seen, as an array. -/
def seenL (f : Int → Option Int) : List Value := (List.range 64).map fun (p : Nat) => Value.bool (f (p : Int)).isSome
theorem seenL_len (f : Int → Option Int) : (seenL f).length = 64 := by unfold seenL; simp
theorem seenL_at (f : Int → Option Int) {q : Nat} (hq : q ≤ 63) : (seenL f)[q]? = some (.bool (f (q : Int)).isSome) := by
  unfold seenL
  rw [List.getElem?_map, List.getElem?_range (by omega)]
  rfl
theorem seenL_put (f : Int → Option Int) {q : Nat} (hq : q ≤ 63) (i : Int) : (seenL f).toArray.setIfInBounds q (.bool true) = (seenL (putF f (q : Int) i)).toArray := by
  rw [List.setIfInBounds_toArray]
  congr 1
  apply List.ext_getElem?
  intro j
  rw [List.getElem?_set, seenL_len]
  by_cases hj : j ≤ 63
  · by_cases e : q = j
    · subst e
      rw [if_pos rfl, if_pos (by omega), seenL_at _ hj]
      simp [putF]
    · rw [if_neg e, seenL_at _ hj, seenL_at _ hj]
      have : ¬ ((j : Int) = (q : Int)) := by omega
      simp only [putF, if_neg this]
  · have h1 : ∀ g, (seenL g)[j]? = none := fun g => List.getElem?_eq_none (by rw [seenL_len]; omega)
    rw [h1, h1]
    split
    · rw [if_neg (by omega)]
    · rfl
theorem seen_start : (seenL fun _ => none).toArray = #[.bool false, .bool false, .bool false, .bool false, .bool false, .bool false, .bool false, .bool false, .bool false, .bool false, .bool false, .bool false, .bool false, .bool false, .bool false, .bool false, .bool false, .bool false, .bool false, .bool false, .bool false, .bool false, .bool false, .bool false, .bool false, .bool false, .bool false, .bool false, .bool false, .bool false, .bool false, .bool false, .bool false, .bool false, .bool false, .bool false, .bool false, .bool false, .bool false, .bool false, .bool false, .bool false, .bool false, .bool false, .bool false, .bool false, .bool false, .bool false, .bool false, .bool false, .bool false, .bool false, .bool false, .bool false, .bool false, .bool false, .bool false, .bool false, .bool false, .bool false, .bool false, .bool false, .bool false, .bool false] := by kernel_rfl
theorem partQ_none {r : RefS} {gs : List (List GI)} (h : partG gs = none) : partQ r gs = (1, r) := by unfold partQ; rw [h]
theorem partQ_some {r : RefS} {gs : List (List GI)} {f : Int → Option Int} (h : partG gs = some f) : partQ r gs = (0, { r with split := true, gs := gs }) := by unfold partQ; rw [h]
theorem rpartition_any (v : Value) (gs : List (List GI)) (h : RefAt B R u nv mv gv r w) (hg : ReadsD (fun k => k < B) w v (groupsD gs)) : Calls Try.prog 51 #[.pointer (some ⟨u, 0, none⟩), v] w (RPartMade B R u nv mv (partQ r gs).1 (partQ r gs).2 w) := by
  obtain ⟨ao, cap, rfl, hl, hm, -, hL⟩ := ReadsD.slcM (f := fun g : List GI => [rowD g]) hg
  unfold maxLen at hm
  have HG := Lib.hid hg
  have HN := Lib.hid h
  have HF1 : Hid (partG gs = none → ∀ e w', e = .returned (.int .i64 1) → Below w.heap.size w w' → RPartMade B R u nv mv (partQ r gs).1 (partQ r gs).2 w e w') := Lib.hid fun h1 e w' he hb => by rw [partQ_none h1]; exact ⟨he, ⟨_, HN.out.on hb⟩, Kept.of hb⟩
  have HF2 : Hid (∀ f gv' e w', partG gs = some f → e = .returned (.int .i64 0) → RefAt B R u nv mv gv' { r with split := true, gs := gs } w' → Kept R w w' → RPartMade B R u nv mv (partQ r gs).1 (partQ r gs).2 w e w') := Lib.hid fun f gv' e w' h1 h2 h3 h4 => by rw [partQ_some h1]; exact ⟨h2, ⟨_, h3⟩, h4⟩
  generalize hQ : RPartMade B R u nv mv (partQ r gs).1 (partQ r gs).2 w = Q at *
  have HR : Hid (partAll 0 (gs.drop 0) (fun _ => none) = partG gs) := Lib.hid (by rw [List.drop_zero]; rfl)
  generalize hRR : partG gs = RR at *
  clear hQ hRR h hg
  have HUL : Hid (u < w.heap.size) := Lib.hid HN.out.box.lt
  have HS : Hid (Blk (w.alloc (.cells (seenL fun _ => none).toArray 138)) w.heap.size 138 (seenL fun _ => none).toArray) := Lib.hid (Blk.new w _ _)
  rw [seen_start] at HS
  go_enter Try.func51, Try.ntmps51
  go_upto_region 2 with (refine wpList_store_box rfl 138 (.tmp 5) (.tmp 9) rfl w.heap.size 138 _ #[.bool false, .bool false, .bool false, .bool false, .bool false, .bool false, .bool false, .bool false, .bool false, .bool false, .bool false, .bool false, .bool false, .bool false, .bool false, .bool false, .bool false, .bool false, .bool false, .bool false, .bool false, .bool false, .bool false, .bool false, .bool false, .bool false, .bool false, .bool false, .bool false, .bool false, .bool false, .bool false, .bool false, .bool false, .bool false, .bool false, .bool false, .bool false, .bool false, .bool false, .bool false, .bool false, .bool false, .bool false, .bool false, .bool false, .bool false, .bool false, .bool false, .bool false, .bool false, .bool false, .bool false, .bool false, .bool false, .bool false, .bool false, .bool false, .bool false, .bool false, .bool false, .bool false, .bool false, .bool false] rfl rfl HS.out (by kernel_rfl) rfl (by kernel_rfl) ?_; intro w1 hB1 hk1)
  have HI0 : Hid (Blk w1 w.heap.size 138 (seenL fun _ => none).toArray ∧ Below w.heap.size w w1) := Lib.hid ⟨by rw [seen_start]; exact hB1, ((Kept.of ((Below.refl w.heap.size w).alloc (Nat.le_refl _) (.cells #[.bool false, .bool false, .bool false, .bool false, .bool false, .bool false, .bool false, .bool false, .bool false, .bool false, .bool false, .bool false, .bool false, .bool false, .bool false, .bool false, .bool false, .bool false, .bool false, .bool false, .bool false, .bool false, .bool false, .bool false, .bool false, .bool false, .bool false, .bool false, .bool false, .bool false, .bool false, .bool false, .bool false, .bool false, .bool false, .bool false, .bool false, .bool false, .bool false, .bool false, .bool false, .bool false, .bool false, .bool false, .bool false, .bool false, .bool false, .bool false, .bool false, .bool false, .bool false, .bool false, .bool false, .bool false, .bool false, .bool false, .bool false, .bool false, .bool false, .bool false, .bool false, .bool false, .bool false, .bool false] 138)) : Kept (fun b => b = w.heap.size) w _).trans hk1).below (Nat.le_refl _) fun k hk e => by omega⟩
  clear hB1 hk1 HS
  go_wp2
  go_loopg [6] gs.length (fun mm i wr => ∃ k : Nat, mm + k = gs.length ∧ i = .int .i64 k ∧ ∃ f, Blk wr w.heap.size 138 (seenL f).toArray ∧ Below w.heap.size w wr ∧ partAll k (gs.drop k) f = RR)
  case atStart => exact ⟨0, by omega, rfl, _, HI0.out.1, HI0.out.2, HR.out⟩
  case round =>
    rename World => w2
    obtain ⟨k, hmk, rfl, f, hS, hb, hRk⟩ := hrel
    have HM := Lib.hid hmk
    have HI := Lib.hid (And.intro hS hb)
    have HRK := Lib.hid hRk
    have hk0 : (0 : Int) ≤ (k : Int) := by omega
    have hk1 : k ≤ gs.length := by omega
    clear hmk hS hb hRk HR HI0
    by_cases hlt : k < gs.length
    · have hki : (k : Int) < gs.length := by omega
      obtain ⟨b1, o1, c1, cs1, e1, -, -, -, -, g1, q1⟩ := ReadsD.item (f := fun g : List GI => [rowD g]) HG.out hlt
      injection e1 with e1 e2 e3
      subst e1
      clear e2 e3
      have HST : Hid (partAll k (gs.drop k) f = (partRow (k : Int) gs[k] f).bind fun f' => partAll (k + 1) (gs.drop (k + 1)) f') := Lib.hid (partAll_step hlt f)
      generalize gs[k] = g at *
      obtain ⟨rv, cs2, rfl, r1, qq⟩ := q1.cons
      obtain rfl := qq.nil
      clear q1 qq
      obtain ⟨ro, rk, rfl, hrl, hrm, -, hrL⟩ := ReadsD.slcM (f := fun x : GI => [iD x.n]) r1
      unfold maxLen at hrm
      have HRW := Lib.hid r1
      have HLT := Lib.hid hlt
      have HD1 : Hid (∀ wq, Below w.heap.size w wq → wq.cell? ⟨b1, o1 + k, none⟩ = some (.slice ro g.length rk)) := Lib.hid fun wq hq => by have h := g1 wq hq 0 _ rfl; simpa only [Nat.mul_one, Nat.add_zero] using h
      clear g1 r1 hlt
      obtain ⟨GG, hGG⟩ : ∃ GG, GG = gk := ⟨_, rfl⟩
      subst hGG
      go_wp2
      go_loopg [7] g.length (fun mm j wr => ∃ q : Nat, mm + q = g.length ∧ j = .int .i64 q ∧ ∃ f', Blk wr w.heap.size 138 (seenL f').toArray ∧ Below w.heap.size w wr ∧ ((partRow (k : Int) (g.drop q) f').bind fun f' => partAll (k + 1) (gs.drop (k + 1)) f') = RR)
      case atStart => exact ⟨0, by omega, rfl, f, HI.out.1, HI.out.2, by rw [List.drop_zero, ← HST.out]; exact HRK.out⟩
      case round =>
        rename World => w3
        obtain ⟨q, hmq, rfl, f', hS2, hb2, hRq⟩ := hrel
        have HM2 := Lib.hid hmq
        have HI2 := Lib.hid (And.intro hS2 hb2)
        have HRQ := Lib.hid hRq
        have hq0 : (0 : Int) ≤ (q : Int) := by omega
        have hq1 : q ≤ g.length := by omega
        have d1 : w3.cell? ⟨b1, o1 + k, none⟩ = some (.slice ro g.length rk) := HD1.out w3 hb2
        clear hmq hS2 hb2 hRq HST HRK HI
        by_cases hlq : q < g.length
        · have hqi : (q : Int) < g.length := by omega
          obtain ⟨b2, o2, c2, cs2, e1, -, -, -, -, g2, q2⟩ := ReadsD.item (f := fun x : GI => [iD x.n]) HRW.out hlq
          injection e1 with e1 e2 e3
          subst e1
          clear e2 e3
          have HST : Hid (partRow (k : Int) (g.drop q) f' = if ((f' g[q].n).isSome || !procB g[q].n) = true then none else partRow (k : Int) (g.drop (q + 1)) (putF f' g[q].n k)) := Lib.hid (partRow_step hlq f')
          generalize g[q] = p at *
          obtain ⟨pv, cs3, rfl, r2, qq⟩ := q2.cons
          obtain rfl := qq.nil
          have r3 := r2.i
          subst r3
          clear q2 qq r2
          have d2 : w3.cell? ⟨b2, o2 + q, none⟩ = some (.int .i64 p.n) := by have h := g2 w3 HI2.out.2 0 _ rfl; simpa only [Nat.mul_one, Nat.add_zero] using h
          have HLQ := Lib.hid hlq
          generalize p.n = pn at *
          have HPR := Lib.hid fun W => rprocess_any pn W
          clear g2 hlq
          cases hpr : procB pn with
          | false =>
            have HNO : Hid (RR = none) := Lib.hid (by rw [← HRQ.out, HST.out, hpr]; simp)
            rw [hpr] at HPR
            clear hpr
            go_wp2_with fail
            refine (HPR.out _).mono ?_
            rintro e w' ⟨rfl, rfl⟩
            go_wp2_with fail
            exact HF1.out HNO.out _ _ rfl HI2.out.2
          | true =>
          have hpi := procB_i hpr
          obtain ⟨pm, rfl⟩ : ∃ pm : Nat, pn = pm := ⟨pn.toNat, by omega⟩
          have hp0 : (0 : Int) ≤ (pm : Int) := by omega
          have hp1 : (pm : Int) < 64 := by omega
          have HPM : Hid (pm ≤ 63) := Lib.hid (by omega)
          have d3 : w3.cell? ⟨w.heap.size, pm, none⟩ = some (.bool (f' (pm : Int)).isSome) := by rw [HI2.out.1.cell, List.getElem?_toArray]; exact seenL_at f' HPM.out
          cases hsm : (f' (pm : Int)).isSome with
          | true =>
            have HNO : Hid (RR = none) := Lib.hid (by rw [← HRQ.out, HST.out, hsm]; rfl)
            rw [hpr] at HPR
            rw [hsm] at d3
            clear hsm hpr hpi
            go_wp2_with fail
            refine (HPR.out _).mono ?_
            rintro e w' ⟨rfl, rfl⟩
            go_wp2_with fail
            exact HF1.out HNO.out _ _ rfl HI2.out.2
          | false =>
            have HRN : Hid (((partRow (k : Int) (g.drop (q + 1)) (putF f' (pm : Int) k)).bind fun f' => partAll (k + 1) (gs.drop (k + 1)) f') = RR) := Lib.hid (by rw [← HRQ.out, HST.out, hsm, hpr]; rfl)
            rw [hpr] at HPR
            rw [hsm] at d3
            have f3 : w3.frozen? ⟨w.heap.size, pm, none⟩ = false := HI2.out.1.frozen pm
            have z3 : w.heap.size < w3.heap.size := HI2.out.1.lt
            have HI3 : Hid (Blk (w3.setCell ⟨w.heap.size, pm, none⟩ (.bool true)) w.heap.size 138 (seenL (putF f' (pm : Int) k)).toArray ∧ Below w.heap.size w (w3.setCell ⟨w.heap.size, pm, none⟩ (.bool true))) := Lib.hid ⟨by rw [← seenL_put f' HPM.out]; exact HI2.out.1.set_ pm _, HI2.out.2.setCell (p := ⟨w.heap.size, pm, none⟩) (Nat.le_refl _) _⟩
            clear hsm hpr hpi HST
            go_wp2_with fail
            refine (HPR.out _).mono ?_
            rintro e w' ⟨rfl, rfl⟩
            go_wp2
            go_roundg (g.length - (q + 1))
            case measure => have := HM2.out; have := HLQ.out; omega
            case rel => exact ⟨q + 1, by have := HLQ.out; omega, by go_num, _, HI3.out.1, HI3.out.2, HRN.out⟩
        · have hqi : ¬ (q : Int) < g.length := by omega
          have HRN : Hid (partAll (k + 1) (gs.drop (k + 1)) f' = RR) := Lib.hid (by rw [← HRQ.out, show g.drop q = [] from List.drop_eq_nil_of_le (by omega)]; rfl)
          go_wp2
          go_roundg (gs.length - (k + 1))
          case measure => have := HM.out; have := HLT.out; omega
          case rel => exact ⟨k + 1, by have := HLT.out; omega, by go_num, _, HI2.out.1, HI2.out.2, HRN.out⟩
    · have hki : ¬ (k : Int) < gs.length := by omega
      have HRF : Hid (RR = some f) := Lib.hid (by rw [← HRK.out, show gs.drop k = [] from List.drop_eq_nil_of_le (by omega)]; rfl)
      have HNQ := Lib.hid (HN.out.on HI.out.2)
      have HGQ : Hid (ReadsD (fun k => k < B) w2 (.slice ao gs.length cap) (groupsD gs)) := Lib.hid (HG.out.on HI.out.2)
      have d4 : w2.cell? ⟨u, 4, none⟩ = some (.bool r.split) := HNQ.out.box.cell 4
      have f4 : w2.frozen? ⟨u, 4, none⟩ = false := HNQ.out.box.frozen 4
      obtain ⟨go, gc, rfl, -⟩ := ReadsD.slc (show ReadsD _ _ gv (.ls 1 _) from HN.out.parts.grp.reads)
      have HN4 : Hid (RefAt B R u nv mv _ { r with split := true } (w2.setCell ⟨u, 4, none⟩ (.bool true))) := Lib.hid (HNQ.out.set (r' := { r with split := true }) 4 (.bool true) rfl rfl rfl rfl)
      have d5 : (w2.setCell ⟨u, 4, none⟩ (.bool true)).cell? ⟨u, 5, none⟩ = some _ := HN4.out.box.cell 5
      have f5 : (w2.setCell ⟨u, 4, none⟩ (.bool true)).frozen? ⟨u, 5, none⟩ = false := HN4.out.box.frozen 5
      have z1 : u < w2.heap.size := HNQ.out.box.lt
      have z2 : u < (w2.setCell ⟨u, 4, none⟩ (.bool true)).heap.size := HN4.out.box.lt
      have HN5 : Hid (RefAt B R u nv mv (.slice ao gs.length cap) { r with split := true, gs := gs } ((w2.setCell ⟨u, 4, none⟩ (.bool true)).setCell ⟨u, 5, none⟩ (.slice ao gs.length cap))) := Lib.hid (HN4.out.setG (gs' := gs) (.inl (HGQ.out.kept (S := fun k => k = u) (Kept.set (p := ⟨u, 4, none⟩) _ rfl) fun k hk e => by have := HNQ.out.parts.rb u HNQ.out.parts.ru; omega)))
      have HK : Hid (Kept R w ((w2.setCell ⟨u, 4, none⟩ (.bool true)).setCell ⟨u, 5, none⟩ (.slice ao gs.length cap))) := Lib.hid ((Kept.of HI.out.2).trans ((Kept.set (S := R) (p := ⟨u, 4, none⟩) _ HNQ.out.parts.ru).trans (Kept.set (S := R) (p := ⟨u, 5, none⟩) _ HNQ.out.parts.ru)))
      clear HN4 HNQ HGQ
      go_upto_region 13 with fail
      generalize World.setCell w2 _ _ = w4 at d5 f5 z2 HN5 HK ⊢
      go_wp2
      exact HF2.out f _ _ _ HRF.out rfl HN5.out HK.out
theorem rcounts_any (h : RefAt B R u nv mv gv r w) (hn : r.nums.length ≤ 2000000) : Calls Try.prog 46 #[.pointer (some ⟨u, 0, none⟩)] w (RCountsMade r w) := by
  have HF : Hid (∀ e w', e = .returned (.agg #[.int .i64 r.d0, .int .i64 r.d1, .int .i64 r.d2, .int .i64 r.d3, .int .i64 (r.nums.length : Int)]) ∧ Below w.heap.size w w' → RCountsMade r w e w') := Lib.hid fun _ _ h => h
  obtain ⟨na, nc, rfl⟩ := row_slc h.parts.nums
  have HN := Lib.hid h
  have hl64 : (r.nums.length : Int) ≤ 2000000 := by omega
  clear h hn
  have HB : Hid (Blk (w.alloc (.cells #[.int .i64 0, .int .i64 0, .int .i64 0, .int .i64 0, .int .i64 0] 57)) w.heap.size 57 #[.int .i64 0, .int .i64 0, .int .i64 0, .int .i64 0, .int .i64 0] ∧ Below w.heap.size w (w.alloc (.cells #[.int .i64 0, .int .i64 0, .int .i64 0, .int .i64 0, .int .i64 0] 57))) := Lib.hid ⟨Blk.new w _ _, (Below.refl _ _).alloc (Nat.le_refl _) _⟩
  generalize hQ : RCountsMade r w = Q at *
  clear hQ
  go_enter Try.func46, Try.ntmps46
  go_upto_region 1 with fail
  generalize hw1 : World.alloc w _ = w1 at HB ⊢
  clear hw1
  refine region_tail [.is (.pointer (some ⟨u, 0, none⟩)), .is (.pointer (some ⟨u, 0, none⟩)), .is (.pointer (some ⟨u, 6, none⟩)), .is (.pointer (some ⟨u, 6, none⟩)), .is (.int .i64 r.d0), .is (.pointer (some ⟨u, 0, none⟩)), .is (.pointer (some ⟨u, 0, none⟩)), .is (.pointer (some ⟨u, 6, none⟩)), .is (.pointer (some ⟨u, 7, none⟩)), .is (.int .i64 r.d1), .is (.pointer (some ⟨u, 0, none⟩)), .is (.pointer (some ⟨u, 0, none⟩)), .is (.pointer (some ⟨u, 6, none⟩)), .is (.pointer (some ⟨u, 8, none⟩)), .is (.int .i64 r.d2), .is (.pointer (some ⟨u, 0, none⟩)), .is (.pointer (some ⟨u, 0, none⟩)), .is (.pointer (some ⟨u, 6, none⟩)), .is (.pointer (some ⟨u, 9, none⟩)), .is (.int .i64 r.d3), .is (.pointer (some ⟨u, 0, none⟩)), .is (.pointer (some ⟨u, 0, none⟩)), .is (.pointer (some ⟨u, 1, none⟩)), .is (.slice na r.nums.length nc), .is (.int .i64 (r.nums.length : Int)), .is (.agg #[.int .i64 r.d0, .int .i64 r.d1, .int .i64 r.d2, .int .i64 r.d3, .int .i64 (r.nums.length : Int)]), .is undef] 26 (by kernel_rfl) rfl (by kernel_rfl) (by kernel_rfl) (by kernel_rfl) (by kernel_rfl) rfl (.cons ?c_0 (.cons ?c_1 (.cons ?c_2 (.cons ?c_3 (.cons ?c_4 (.cons ?c_5 (.cons ?c_6 (.cons ?c_7 (.cons ?c_8 (.cons ?c_9 (.cons ?c_10 (.cons ?c_11 (.cons ?c_12 (.cons ?c_13 (.cons ?c_14 (.cons ?c_15 (.cons ?c_16 (.cons ?c_17 (.cons ?c_18 (.cons ?c_19 (.cons ?c_20 (.cons ?c_21 (.cons ?c_22 (.cons ?c_23 (.cons ?c_24 (.cons ?c_25 .nil)))))))))))))))))))))))))) ?c_fin
  case c_0 =>
    intro wq hbw st  K hK
    simp only [Act.put, List.setIfInBounds_toArray, List.set_cons_zero, List.set_cons_succ] at hK ⊢
    unfold opStep
    rw [if_pos (by rfl)]
    go_simp
    exact hK.out _ _ (Below.refl _ _) rfl _ rfl
  case c_1 =>
    intro wq hbw st  K hK
    simp only [Act.put, List.setIfInBounds_toArray, List.set_cons_zero, List.set_cons_succ] at hK ⊢
    unfold opStep
    rw [if_pos (by rfl)]
    go_simp
    exact hK.out _ _ (Below.refl _ _) rfl _ rfl
  case c_2 =>
    intro wq hbw st  K hK
    simp only [Act.put, List.setIfInBounds_toArray, List.set_cons_zero, List.set_cons_succ] at hK ⊢
    unfold opStep
    rw [if_pos (by rfl)]
    go_simp
    exact hK.out _ _ (Below.refl _ _) rfl _ rfl
  case c_3 =>
    intro wq hbw st  K hK
    simp only [Act.put, List.setIfInBounds_toArray, List.set_cons_zero, List.set_cons_succ] at hK ⊢
    unfold opStep
    rw [if_pos (by rfl)]
    go_simp
    exact hK.out _ _ (Below.refl _ _) rfl _ rfl
  case c_4 =>
    intro wq hbw st  K hK
    simp only [Act.put, List.setIfInBounds_toArray, List.set_cons_zero, List.set_cons_succ] at hK ⊢
    unfold opStep
    rw [if_pos (by rfl)]
    have d0 : wq.cell? ⟨u, 6, none⟩ = some (.int .i64 r.d0) := (HN.out.on (HB.out.2.trans (hbw.mono HB.out.2.size))).box.cell 6
    go_simp
    exact hK.out _ _ (Below.refl _ _) rfl _ rfl
  case c_5 =>
    intro wq hbw st  K hK
    simp only [Act.put, List.setIfInBounds_toArray, List.set_cons_zero, List.set_cons_succ] at hK ⊢
    unfold opStep
    rw [if_pos (by rfl)]
    go_simp
    exact hK.out _ _ (Below.refl _ _) rfl _ rfl
  case c_6 =>
    intro wq hbw st  K hK
    simp only [Act.put, List.setIfInBounds_toArray, List.set_cons_zero, List.set_cons_succ] at hK ⊢
    unfold opStep
    rw [if_pos (by rfl)]
    go_simp
    exact hK.out _ _ (Below.refl _ _) rfl _ rfl
  case c_7 =>
    intro wq hbw st  K hK
    simp only [Act.put, List.setIfInBounds_toArray, List.set_cons_zero, List.set_cons_succ] at hK ⊢
    unfold opStep
    rw [if_pos (by rfl)]
    go_simp
    exact hK.out _ _ (Below.refl _ _) rfl _ rfl
  case c_8 =>
    intro wq hbw st  K hK
    simp only [Act.put, List.setIfInBounds_toArray, List.set_cons_zero, List.set_cons_succ] at hK ⊢
    unfold opStep
    rw [if_pos (by rfl)]
    go_simp
    exact hK.out _ _ (Below.refl _ _) rfl _ rfl
  case c_9 =>
    intro wq hbw st  K hK
    simp only [Act.put, List.setIfInBounds_toArray, List.set_cons_zero, List.set_cons_succ] at hK ⊢
    unfold opStep
    rw [if_pos (by rfl)]
    have d0 : wq.cell? ⟨u, 7, none⟩ = some (.int .i64 r.d1) := (HN.out.on (HB.out.2.trans (hbw.mono HB.out.2.size))).box.cell 7
    go_simp
    exact hK.out _ _ (Below.refl _ _) rfl _ rfl
  case c_10 =>
    intro wq hbw st  K hK
    simp only [Act.put, List.setIfInBounds_toArray, List.set_cons_zero, List.set_cons_succ] at hK ⊢
    unfold opStep
    rw [if_pos (by rfl)]
    go_simp
    exact hK.out _ _ (Below.refl _ _) rfl _ rfl
  case c_11 =>
    intro wq hbw st  K hK
    simp only [Act.put, List.setIfInBounds_toArray, List.set_cons_zero, List.set_cons_succ] at hK ⊢
    unfold opStep
    rw [if_pos (by rfl)]
    go_simp
    exact hK.out _ _ (Below.refl _ _) rfl _ rfl
  case c_12 =>
    intro wq hbw st  K hK
    simp only [Act.put, List.setIfInBounds_toArray, List.set_cons_zero, List.set_cons_succ] at hK ⊢
    unfold opStep
    rw [if_pos (by rfl)]
    go_simp
    exact hK.out _ _ (Below.refl _ _) rfl _ rfl
  case c_13 =>
    intro wq hbw st  K hK
    simp only [Act.put, List.setIfInBounds_toArray, List.set_cons_zero, List.set_cons_succ] at hK ⊢
    unfold opStep
    rw [if_pos (by rfl)]
    go_simp
    exact hK.out _ _ (Below.refl _ _) rfl _ rfl
  case c_14 =>
    intro wq hbw st  K hK
    simp only [Act.put, List.setIfInBounds_toArray, List.set_cons_zero, List.set_cons_succ] at hK ⊢
    unfold opStep
    rw [if_pos (by rfl)]
    have d0 : wq.cell? ⟨u, 8, none⟩ = some (.int .i64 r.d2) := (HN.out.on (HB.out.2.trans (hbw.mono HB.out.2.size))).box.cell 8
    go_simp
    exact hK.out _ _ (Below.refl _ _) rfl _ rfl
  case c_15 =>
    intro wq hbw st  K hK
    simp only [Act.put, List.setIfInBounds_toArray, List.set_cons_zero, List.set_cons_succ] at hK ⊢
    unfold opStep
    rw [if_pos (by rfl)]
    go_simp
    exact hK.out _ _ (Below.refl _ _) rfl _ rfl
  case c_16 =>
    intro wq hbw st  K hK
    simp only [Act.put, List.setIfInBounds_toArray, List.set_cons_zero, List.set_cons_succ] at hK ⊢
    unfold opStep
    rw [if_pos (by rfl)]
    go_simp
    exact hK.out _ _ (Below.refl _ _) rfl _ rfl
  case c_17 =>
    intro wq hbw st  K hK
    simp only [Act.put, List.setIfInBounds_toArray, List.set_cons_zero, List.set_cons_succ] at hK ⊢
    unfold opStep
    rw [if_pos (by rfl)]
    go_simp
    exact hK.out _ _ (Below.refl _ _) rfl _ rfl
  case c_18 =>
    intro wq hbw st  K hK
    simp only [Act.put, List.setIfInBounds_toArray, List.set_cons_zero, List.set_cons_succ] at hK ⊢
    unfold opStep
    rw [if_pos (by rfl)]
    go_simp
    exact hK.out _ _ (Below.refl _ _) rfl _ rfl
  case c_19 =>
    intro wq hbw st  K hK
    simp only [Act.put, List.setIfInBounds_toArray, List.set_cons_zero, List.set_cons_succ] at hK ⊢
    unfold opStep
    rw [if_pos (by rfl)]
    have d0 : wq.cell? ⟨u, 9, none⟩ = some (.int .i64 r.d3) := (HN.out.on (HB.out.2.trans (hbw.mono HB.out.2.size))).box.cell 9
    go_simp
    exact hK.out _ _ (Below.refl _ _) rfl _ rfl
  case c_20 =>
    intro wq hbw st  K hK
    simp only [Act.put, List.setIfInBounds_toArray, List.set_cons_zero, List.set_cons_succ] at hK ⊢
    unfold opStep
    rw [if_pos (by rfl)]
    go_simp
    exact hK.out _ _ (Below.refl _ _) rfl _ rfl
  case c_21 =>
    intro wq hbw st  K hK
    simp only [Act.put, List.setIfInBounds_toArray, List.set_cons_zero, List.set_cons_succ] at hK ⊢
    unfold opStep
    rw [if_pos (by rfl)]
    go_simp
    exact hK.out _ _ (Below.refl _ _) rfl _ rfl
  case c_22 =>
    intro wq hbw st  K hK
    simp only [Act.put, List.setIfInBounds_toArray, List.set_cons_zero, List.set_cons_succ] at hK ⊢
    unfold opStep
    rw [if_pos (by rfl)]
    go_simp
    exact hK.out _ _ (Below.refl _ _) rfl _ rfl
  case c_23 =>
    intro wq hbw st  K hK
    simp only [Act.put, List.setIfInBounds_toArray, List.set_cons_zero, List.set_cons_succ] at hK ⊢
    unfold opStep
    rw [if_pos (by rfl)]
    have d0 : wq.cell? ⟨u, 1, none⟩ = some (.slice na r.nums.length nc) := (HN.out.on (HB.out.2.trans (hbw.mono HB.out.2.size))).box.cell 1
    go_simp
    exact hK.out _ _ (Below.refl _ _) rfl _ rfl
  case c_24 =>
    intro wq hbw st  K hK
    simp only [Act.put, List.setIfInBounds_toArray, List.set_cons_zero, List.set_cons_succ] at hK ⊢
    unfold opStep
    rw [if_pos (by rfl)]
    go_simp
    exact hK.out _ _ (Below.refl _ _) rfl _ rfl
  case c_25 =>
    intro wq hbw st  K hK
    simp only [Act.put, List.setIfInBounds_toArray, List.set_cons_zero, List.set_cons_succ] at hK ⊢
    unfold opStep
    rw [if_pos (by rfl)]
    go_simp
    exact hK.out _ _ (Below.refl _ _) rfl _ rfl
  case c_fin =>
    intro wq hbw
    try simp only [FinAll]
    simp only [List.drop_succ_cons, List.drop_zero]
    simp only [Act.put, List.setIfInBounds_toArray, List.set_cons_zero, List.set_cons_succ]
    have HQ := Lib.hid (And.intro (HB.out.1.on hbw) (HB.out.2.trans (hbw.mono HB.out.2.size)))
    clear hbw
    refine wpList_store_box rfl 57 (.tmp 2) (.tmp 28) rfl w.heap.size 57 _ #[.int .i64 r.d0, .int .i64 r.d1, .int .i64 r.d2, .int .i64 r.d3, .int .i64 (r.nums.length : Int)] rfl rfl HQ.out.1 (by kernel_rfl) rfl (by simp [Value.oneCell']) ?_
    intro w4 hB4 hk4
    have HL := Lib.hid (run_loadVar_mid (P := Try.prog) w4 w.heap.size 0 57 _ _ (Blk.range hB4) Try.underlying57 rfl (by kernel_rfl))
    have HG : Hid (Below w.heap.size w w4) := Lib.hid (HQ.out.2.trans (hk4.below HQ.out.2.size fun k hk e => by omega))
    clear hB4 hk4
    go_wp2
    refine bodyPost_ret (results_cell rfl rfl HL.out) rfl (HF.out _ _ ⟨rfl, HG.out⟩)
theorem rdeliverable_any (g : Int → Bool) (h : RefAt B R u nv mv gv r w) (hn : r.nums.length ≤ 2000000) (hml : r.msgs.length = r.nums.length) (hg : ∀ i (hi : i < r.nums.length), goQ r i = g r.nums[i]) : Calls Try.prog 45 #[.pointer (some ⟨u, 0, none⟩)] w (RDelvMade (r.nums.filter g) w) := by
  have HF : Hid (∀ v e w', e = .returned v → Reads vi w' v (r.nums.filter g) → Below w.heap.size w w' → RDelvMade (r.nums.filter g) w e w') := Lib.hid fun v e w' h1 h2 h3 => ⟨v, h1, h2, h3⟩
  have HRD := Lib.hid h.reads
  obtain ⟨na, nc, rfl⟩ := row_slc h.parts.nums
  have HN := Lib.hid h
  have HML := Lib.hid hml
  have HGO := Lib.hid hg
  have hl64 : r.nums.length ≤ 2000000 := hn
  have hm64 : r.msgs.length ≤ 2000000 := by omega
  obtain ⟨i0, hi, hz0, hz1, hz2⟩ := info_parts Try.infoInt0
  have HI := Lib.hid (And.intro hi (And.intro hz0 (And.intro hz1 hz2)))
  have HO0 : Hid ((w.alloc (.cells #[] 3)).ownsRow w.heap.size 3 1 (.slice (some ⟨w.heap.size, 0, none⟩) 0 0) 0 [] ∧ Below w.heap.size w (w.alloc (.cells #[] 3))) := Lib.hid ⟨World.ownsRow_made w #[] 0 (Nat.le_refl _) (by decide) rfl, (Below.refl _ _).alloc (Nat.le_refl _) _⟩
  generalize hQ : RDelvMade (r.nums.filter g) w = Q at *
  clear hQ h hml hg hi hz0 hz1 hz2 hn
  go_enter Try.func45, Try.ntmps45
  go_wp2
  go_loopg [3, 4] r.nums.length (fun mm o i wr => ∃ k : Nat, mm + k = r.nums.length ∧ i = .int .i64 k ∧ wr.ownsRow w.heap.size 3 1 o ((r.nums.take k).filter g).length (((r.nums.take k).filter g).map vi) ∧ Below w.heap.size w wr)
  case atStart => exact ⟨0, by omega, rfl, HO0.out.1, HO0.out.2⟩
  case round =>
    rename World => w1
    obtain ⟨k, hmk, rfl, hown, hbel⟩ := hrel
    have HM := Lib.hid hmk
    have HO := Lib.hid (And.intro hown hbel)
    have hk0 : (0 : Int) ≤ (k : Int) := by omega
    have hk1 : k ≤ r.nums.length := by omega
    have HN1 := Lib.hid (HN.out.on hbel)
    have d1 : w1.cell? ⟨u, 1, none⟩ = some (.slice na r.nums.length nc) := HN1.out.box.cell 1
    clear hmk hown hbel HO0
    by_cases hlt : k < r.nums.length
    · have hki : (k : Int) < r.nums.length := by omega
      have hkm : (k : Int) < r.msgs.length := by have := HML.out; omega
      obtain ⟨b1, o1, c1, hv, hb1, hcell⟩ := int_at (HRD.out.keep HO.out.2) hlt
      injection hv with e1 e2 e3
      subst e1
      clear e2 e3
      have HST := Lib.hid (filter_step g r.nums hlt)
      have HLE := Lib.hid (filter_len g r.nums k)
      have HGX := Lib.hid (HGO.out k hlt)
      have HLT := Lib.hid hlt
      obtain ⟨kg, kcap, ks, hkv, hkg, hkr, hkm2, hkl⟩ := HN1.out.msg (k := k) (by have := HML.out; omega)
      subst hkv
      have HFT := Lib.hid (msg_ft hkm2)
      have HKR := Lib.hid (And.intro hkr hkg)
      unfold vi at hcell
      have HX := Lib.hid (And.intro hcell hb1)
      clear hkr hkm2 hkl hkg hcell hb1
      generalize r.nums[k] = x at *
      clear hlt
      go_upto_region 5 with fail
      cases hcon : g x with
      | true =>
        have HCON : Hid (goQ r k = true) := Lib.hid (HGX.out.trans hcon)
        have HE : Hid ((r.nums.take (k + 1)).filter g = (r.nums.take k).filter g ++ [x]) := Lib.hid (by rw [HST.out, hcon]; simp)
        clear hcon HST HGX
        generalize (r.nums.take k).filter g = out at *
        refine region_left [.is (.pointer (some ⟨u, 0, none⟩)), .is (.pointer (some ⟨u, 0, none⟩)), .is (.pointer (some ⟨u, 0, none⟩)), .is (.pointer (some ⟨u, 2, none⟩)), .is (.slice (some ⟨kg, 0, none⟩) r.msgs.length kcap), .is (.int .i64 k), .is (.pointer (some ⟨kg, k * 15, none⟩)), .is (.pointer (some ⟨kg, k * 15 + 1, none⟩)), .is (.int .i64 (msgQ r k).frm), .is (.pointer (some ⟨u, 0, none⟩)), .is (.pointer (some ⟨u, 0, none⟩)), .is (.pointer (some ⟨u, 2, none⟩)), .is (.slice (some ⟨kg, 0, none⟩) r.msgs.length kcap), .is (.int .i64 k), .is (.pointer (some ⟨kg, k * 15, none⟩)), .is (.pointer (some ⟨kg, k * 15 + 2, none⟩)), .is (.int .i64 (msgQ r k).to), .is (.bool true)] (by kernel_rfl) rfl (by kernel_rfl) (by kernel_rfl) (.cons ?ct_0 (.cons ?ct_1 (.cons ?ct_2 (.cons ?ct_3 (.cons ?ct_4 (.cons ?ct_5 (.cons ?ct_6 (.cons ?ct_7 (.cons ?ct_8 (.cons ?ct_9 (.cons ?ct_10 (.cons ?ct_11 (.cons ?ct_12 (.cons ?ct_13 (.cons ?ct_14 (.cons ?ct_15 (.cons ?ct_16 (.cons ?ct_17 .nil)))))))))))))))))) ?ct_fin
        case ct_0 =>
          intro wq hbw st  K hK
          simp only [Act.put, List.setIfInBounds_toArray, List.set_cons_zero, List.set_cons_succ] at hK ⊢
          unfold opStep
          rw [if_pos (by rfl)]
          go_simp
          exact hK.out _ _ (Below.refl _ _) rfl _ rfl
        case ct_1 =>
          intro wq hbw st  K hK
          simp only [Act.put, List.setIfInBounds_toArray, List.set_cons_zero, List.set_cons_succ] at hK ⊢
          unfold opStep
          rw [if_pos (by rfl)]
          go_simp
          exact hK.out _ _ (Below.refl _ _) rfl _ rfl
        case ct_2 =>
          intro wq hbw st  K hK
          simp only [Act.put, List.setIfInBounds_toArray, List.set_cons_zero, List.set_cons_succ] at hK ⊢
          unfold opStep
          rw [if_pos (by rfl)]
          go_simp
          exact hK.out _ _ (Below.refl _ _) rfl _ rfl
        case ct_3 =>
          intro wq hbw st  K hK
          simp only [Act.put, List.setIfInBounds_toArray, List.set_cons_zero, List.set_cons_succ] at hK ⊢
          unfold opStep
          rw [if_pos (by rfl)]
          go_simp
          exact hK.out _ _ (Below.refl _ _) rfl _ rfl
        case ct_4 =>
          intro wq hbw st  K hK
          simp only [Act.put, List.setIfInBounds_toArray, List.set_cons_zero, List.set_cons_succ] at hK ⊢
          unfold opStep
          rw [if_pos (by rfl)]
          have d0 : wq.cell? ⟨u, 2, none⟩ = some (.slice (some ⟨kg, 0, none⟩) r.msgs.length kcap) := (HN1.out.on hbw).box.cell 2
          go_simp
          exact hK.out _ _ (Below.refl _ _) rfl _ rfl
        case ct_5 =>
          intro wq hbw st  K hK
          simp only [Act.put, List.setIfInBounds_toArray, List.set_cons_zero, List.set_cons_succ] at hK ⊢
          unfold opStep
          rw [if_pos (by rfl)]
          go_simp
          exact hK.out _ _ (Below.refl _ _) rfl _ rfl
        case ct_6 =>
          intro wq hbw st  K hK
          simp only [Act.put, List.setIfInBounds_toArray, List.set_cons_zero, List.set_cons_succ] at hK ⊢
          unfold opStep
          rw [if_pos (by rfl)]
          go_simp
          exact hK.out _ _ (Below.refl _ _) rfl _ rfl
        case ct_7 =>
          intro wq hbw st  K hK
          simp only [Act.put, List.setIfInBounds_toArray, List.set_cons_zero, List.set_cons_succ] at hK ⊢
          unfold opStep
          rw [if_pos (by rfl)]
          go_simp
          exact hK.out _ _ (Below.refl _ _) rfl _ rfl
        case ct_8 =>
          intro wq hbw st  K hK
          simp only [Act.put, List.setIfInBounds_toArray, List.set_cons_zero, List.set_cons_succ] at hK ⊢
          unfold opStep
          rw [if_pos (by rfl)]
          have d0 : wq.cell? ⟨kg, k * 15 + 1, none⟩ = some (.int .i64 (msgQ r k).frm) := (hbw.cell (p := ⟨kg, k * 15 + 1, none⟩) HKR.out.2).trans (HKR.out.1 1 _ HFT.out.1)
          go_simp
          exact hK.out _ _ (Below.refl _ _) rfl _ rfl
        case ct_9 =>
          intro wq hbw st  K hK
          simp only [Act.put, List.setIfInBounds_toArray, List.set_cons_zero, List.set_cons_succ] at hK ⊢
          unfold opStep
          rw [if_pos (by rfl)]
          go_simp
          exact hK.out _ _ (Below.refl _ _) rfl _ rfl
        case ct_10 =>
          intro wq hbw st  K hK
          simp only [Act.put, List.setIfInBounds_toArray, List.set_cons_zero, List.set_cons_succ] at hK ⊢
          unfold opStep
          rw [if_pos (by rfl)]
          go_simp
          exact hK.out _ _ (Below.refl _ _) rfl _ rfl
        case ct_11 =>
          intro wq hbw st  K hK
          simp only [Act.put, List.setIfInBounds_toArray, List.set_cons_zero, List.set_cons_succ] at hK ⊢
          unfold opStep
          rw [if_pos (by rfl)]
          go_simp
          exact hK.out _ _ (Below.refl _ _) rfl _ rfl
        case ct_12 =>
          intro wq hbw st  K hK
          simp only [Act.put, List.setIfInBounds_toArray, List.set_cons_zero, List.set_cons_succ] at hK ⊢
          unfold opStep
          rw [if_pos (by rfl)]
          have d0 : wq.cell? ⟨u, 2, none⟩ = some (.slice (some ⟨kg, 0, none⟩) r.msgs.length kcap) := (HN1.out.on hbw).box.cell 2
          go_simp
          exact hK.out _ _ (Below.refl _ _) rfl _ rfl
        case ct_13 =>
          intro wq hbw st  K hK
          simp only [Act.put, List.setIfInBounds_toArray, List.set_cons_zero, List.set_cons_succ] at hK ⊢
          unfold opStep
          rw [if_pos (by rfl)]
          go_simp
          exact hK.out _ _ (Below.refl _ _) rfl _ rfl
        case ct_14 =>
          intro wq hbw st  K hK
          simp only [Act.put, List.setIfInBounds_toArray, List.set_cons_zero, List.set_cons_succ] at hK ⊢
          unfold opStep
          rw [if_pos (by rfl)]
          go_simp
          exact hK.out _ _ (Below.refl _ _) rfl _ rfl
        case ct_15 =>
          intro wq hbw st  K hK
          simp only [Act.put, List.setIfInBounds_toArray, List.set_cons_zero, List.set_cons_succ] at hK ⊢
          unfold opStep
          rw [if_pos (by rfl)]
          go_simp
          exact hK.out _ _ (Below.refl _ _) rfl _ rfl
        case ct_16 =>
          intro wq hbw st  K hK
          simp only [Act.put, List.setIfInBounds_toArray, List.set_cons_zero, List.set_cons_succ] at hK ⊢
          unfold opStep
          rw [if_pos (by rfl)]
          have d0 : wq.cell? ⟨kg, k * 15 + 2, none⟩ = some (.int .i64 (msgQ r k).to) := (hbw.cell (p := ⟨kg, k * 15 + 2, none⟩) HKR.out.2).trans (HKR.out.1 2 _ HFT.out.2.1)
          go_simp
          exact hK.out _ _ (Below.refl _ _) rfl _ rfl
        case ct_17 =>
          intro wq hbw st  K hK
          simp only [Act.put, List.setIfInBounds_toArray, List.set_cons_zero, List.set_cons_succ] at hK ⊢
          unfold opStep
          rw [if_pos (by rfl)]
          go_simp
          have hpc := rconnected_any (msgQ r k).frm (msgQ r k).to (HN1.out.on hbw)
          rw [show rconnB r.split r.gs (msgQ r k).frm (msgQ r k).to = true from HCON.out] at hpc
          refine hpc.mono ?_
          rintro e wz ⟨rfl, rfl⟩
          go_simp
          exact hK.out _ _ (Below.refl _ _) rfl _ rfl
        case ct_fin =>
          intro wq hbw
          try simp only [FinAll]
          simp only [Act.put, List.setIfInBounds_toArray, List.set_cons_zero, List.set_cons_succ]
          have HO2 : Hid (wq.ownsRow w.heap.size 3 1 _ out.length (out.map vi) ∧ Below w.heap.size w wq) := Lib.hid ⟨ownK_on HO.out.1 hbw, HO.out.2.trans (hbw.mono HO.out.2.size)⟩
          have d1 : wq.cell? ⟨u, 1, none⟩ = some (.slice (some ⟨b1, o1, none⟩) r.nums.length nc) := (HN1.out.on hbw).box.cell 1
          have d2 : wq.cell? ⟨b1, o1 + k, none⟩ = some (.int .i64 x) := (hbw.cell (p := ⟨b1, o1 + k, none⟩) HX.out.2).trans HX.out.1
          clear hbw
          have hol := HLE.out
          go_wp2_with (at_builtin; refine wpList_append_own _ rfl _ _ 59 rfl w.heap.size 3 i0 (.int .i64 0) 1 8 Try.underlying59 HI.out.1 HI.out.2.1 HI.out.2.2.1 HI.out.2.2.2 rfl (by decide) _ _ _ rfl (by exact HO2.out.1.alloc _) ⟨_, 0, none⟩ 1 1 [.int .i64 x] rfl rfl ?q1 ?q2 ?q3 ?q4 ?q5 ?_)
          case q1 => exact cell_one_new _ _ _
          case q2 => intro u hu; simp at hu; subst hu; rfl
          case q3 => unfold maxLen; omega
          case q4 => omega
          case q5 => have := HO2.out.2.size; simp; omega
          intro v3 w3 hown3 hgr3 _
          have H3 := Lib.hid (append_one (x := x) HO2.out.1 HO2.out.2 (by exact hgr3) hown3)
          clear hown3 hgr3 hol
          go_wp2
          go_roundg (r.nums.length - (k + 1))
          case measure => have := HM.out; have := HLT.out; omega
          case rel => exact ⟨k + 1, by have := HLT.out; omega, by go_num, by rw [HE.out]; exact H3.out.1, H3.out.2⟩
      | false =>
        have HCON : Hid (goQ r k = false) := Lib.hid (HGX.out.trans hcon)
        have HE : Hid ((r.nums.take (k + 1)).filter g = (r.nums.take k).filter g) := Lib.hid (by rw [HST.out, hcon]; simp)
        clear hcon HST HGX
        generalize (r.nums.take k).filter g = out at *
        refine region_left [.is (.pointer (some ⟨u, 0, none⟩)), .is (.pointer (some ⟨u, 0, none⟩)), .is (.pointer (some ⟨u, 0, none⟩)), .is (.pointer (some ⟨u, 2, none⟩)), .is (.slice (some ⟨kg, 0, none⟩) r.msgs.length kcap), .is (.int .i64 k), .is (.pointer (some ⟨kg, k * 15, none⟩)), .is (.pointer (some ⟨kg, k * 15 + 1, none⟩)), .is (.int .i64 (msgQ r k).frm), .is (.pointer (some ⟨u, 0, none⟩)), .is (.pointer (some ⟨u, 0, none⟩)), .is (.pointer (some ⟨u, 2, none⟩)), .is (.slice (some ⟨kg, 0, none⟩) r.msgs.length kcap), .is (.int .i64 k), .is (.pointer (some ⟨kg, k * 15, none⟩)), .is (.pointer (some ⟨kg, k * 15 + 2, none⟩)), .is (.int .i64 (msgQ r k).to), .is (.bool false)] (by kernel_rfl) rfl (by kernel_rfl) (by kernel_rfl) (.cons ?cf_0 (.cons ?cf_1 (.cons ?cf_2 (.cons ?cf_3 (.cons ?cf_4 (.cons ?cf_5 (.cons ?cf_6 (.cons ?cf_7 (.cons ?cf_8 (.cons ?cf_9 (.cons ?cf_10 (.cons ?cf_11 (.cons ?cf_12 (.cons ?cf_13 (.cons ?cf_14 (.cons ?cf_15 (.cons ?cf_16 (.cons ?cf_17 .nil)))))))))))))))))) ?cf_fin
        case cf_0 =>
          intro wq hbw st  K hK
          simp only [Act.put, List.setIfInBounds_toArray, List.set_cons_zero, List.set_cons_succ] at hK ⊢
          unfold opStep
          rw [if_pos (by rfl)]
          go_simp
          exact hK.out _ _ (Below.refl _ _) rfl _ rfl
        case cf_1 =>
          intro wq hbw st  K hK
          simp only [Act.put, List.setIfInBounds_toArray, List.set_cons_zero, List.set_cons_succ] at hK ⊢
          unfold opStep
          rw [if_pos (by rfl)]
          go_simp
          exact hK.out _ _ (Below.refl _ _) rfl _ rfl
        case cf_2 =>
          intro wq hbw st  K hK
          simp only [Act.put, List.setIfInBounds_toArray, List.set_cons_zero, List.set_cons_succ] at hK ⊢
          unfold opStep
          rw [if_pos (by rfl)]
          go_simp
          exact hK.out _ _ (Below.refl _ _) rfl _ rfl
        case cf_3 =>
          intro wq hbw st  K hK
          simp only [Act.put, List.setIfInBounds_toArray, List.set_cons_zero, List.set_cons_succ] at hK ⊢
          unfold opStep
          rw [if_pos (by rfl)]
          go_simp
          exact hK.out _ _ (Below.refl _ _) rfl _ rfl
        case cf_4 =>
          intro wq hbw st  K hK
          simp only [Act.put, List.setIfInBounds_toArray, List.set_cons_zero, List.set_cons_succ] at hK ⊢
          unfold opStep
          rw [if_pos (by rfl)]
          have d0 : wq.cell? ⟨u, 2, none⟩ = some (.slice (some ⟨kg, 0, none⟩) r.msgs.length kcap) := (HN1.out.on hbw).box.cell 2
          go_simp
          exact hK.out _ _ (Below.refl _ _) rfl _ rfl
        case cf_5 =>
          intro wq hbw st  K hK
          simp only [Act.put, List.setIfInBounds_toArray, List.set_cons_zero, List.set_cons_succ] at hK ⊢
          unfold opStep
          rw [if_pos (by rfl)]
          go_simp
          exact hK.out _ _ (Below.refl _ _) rfl _ rfl
        case cf_6 =>
          intro wq hbw st  K hK
          simp only [Act.put, List.setIfInBounds_toArray, List.set_cons_zero, List.set_cons_succ] at hK ⊢
          unfold opStep
          rw [if_pos (by rfl)]
          go_simp
          exact hK.out _ _ (Below.refl _ _) rfl _ rfl
        case cf_7 =>
          intro wq hbw st  K hK
          simp only [Act.put, List.setIfInBounds_toArray, List.set_cons_zero, List.set_cons_succ] at hK ⊢
          unfold opStep
          rw [if_pos (by rfl)]
          go_simp
          exact hK.out _ _ (Below.refl _ _) rfl _ rfl
        case cf_8 =>
          intro wq hbw st  K hK
          simp only [Act.put, List.setIfInBounds_toArray, List.set_cons_zero, List.set_cons_succ] at hK ⊢
          unfold opStep
          rw [if_pos (by rfl)]
          have d0 : wq.cell? ⟨kg, k * 15 + 1, none⟩ = some (.int .i64 (msgQ r k).frm) := (hbw.cell (p := ⟨kg, k * 15 + 1, none⟩) HKR.out.2).trans (HKR.out.1 1 _ HFT.out.1)
          go_simp
          exact hK.out _ _ (Below.refl _ _) rfl _ rfl
        case cf_9 =>
          intro wq hbw st  K hK
          simp only [Act.put, List.setIfInBounds_toArray, List.set_cons_zero, List.set_cons_succ] at hK ⊢
          unfold opStep
          rw [if_pos (by rfl)]
          go_simp
          exact hK.out _ _ (Below.refl _ _) rfl _ rfl
        case cf_10 =>
          intro wq hbw st  K hK
          simp only [Act.put, List.setIfInBounds_toArray, List.set_cons_zero, List.set_cons_succ] at hK ⊢
          unfold opStep
          rw [if_pos (by rfl)]
          go_simp
          exact hK.out _ _ (Below.refl _ _) rfl _ rfl
        case cf_11 =>
          intro wq hbw st  K hK
          simp only [Act.put, List.setIfInBounds_toArray, List.set_cons_zero, List.set_cons_succ] at hK ⊢
          unfold opStep
          rw [if_pos (by rfl)]
          go_simp
          exact hK.out _ _ (Below.refl _ _) rfl _ rfl
        case cf_12 =>
          intro wq hbw st  K hK
          simp only [Act.put, List.setIfInBounds_toArray, List.set_cons_zero, List.set_cons_succ] at hK ⊢
          unfold opStep
          rw [if_pos (by rfl)]
          have d0 : wq.cell? ⟨u, 2, none⟩ = some (.slice (some ⟨kg, 0, none⟩) r.msgs.length kcap) := (HN1.out.on hbw).box.cell 2
          go_simp
          exact hK.out _ _ (Below.refl _ _) rfl _ rfl
        case cf_13 =>
          intro wq hbw st  K hK
          simp only [Act.put, List.setIfInBounds_toArray, List.set_cons_zero, List.set_cons_succ] at hK ⊢
          unfold opStep
          rw [if_pos (by rfl)]
          go_simp
          exact hK.out _ _ (Below.refl _ _) rfl _ rfl
        case cf_14 =>
          intro wq hbw st  K hK
          simp only [Act.put, List.setIfInBounds_toArray, List.set_cons_zero, List.set_cons_succ] at hK ⊢
          unfold opStep
          rw [if_pos (by rfl)]
          go_simp
          exact hK.out _ _ (Below.refl _ _) rfl _ rfl
        case cf_15 =>
          intro wq hbw st  K hK
          simp only [Act.put, List.setIfInBounds_toArray, List.set_cons_zero, List.set_cons_succ] at hK ⊢
          unfold opStep
          rw [if_pos (by rfl)]
          go_simp
          exact hK.out _ _ (Below.refl _ _) rfl _ rfl
        case cf_16 =>
          intro wq hbw st  K hK
          simp only [Act.put, List.setIfInBounds_toArray, List.set_cons_zero, List.set_cons_succ] at hK ⊢
          unfold opStep
          rw [if_pos (by rfl)]
          have d0 : wq.cell? ⟨kg, k * 15 + 2, none⟩ = some (.int .i64 (msgQ r k).to) := (hbw.cell (p := ⟨kg, k * 15 + 2, none⟩) HKR.out.2).trans (HKR.out.1 2 _ HFT.out.2.1)
          go_simp
          exact hK.out _ _ (Below.refl _ _) rfl _ rfl
        case cf_17 =>
          intro wq hbw st  K hK
          simp only [Act.put, List.setIfInBounds_toArray, List.set_cons_zero, List.set_cons_succ] at hK ⊢
          unfold opStep
          rw [if_pos (by rfl)]
          go_simp
          have hpc := rconnected_any (msgQ r k).frm (msgQ r k).to (HN1.out.on hbw)
          rw [show rconnB r.split r.gs (msgQ r k).frm (msgQ r k).to = false from HCON.out] at hpc
          refine hpc.mono ?_
          rintro e wz ⟨rfl, rfl⟩
          go_simp
          exact hK.out _ _ (Below.refl _ _) rfl _ rfl
        case cf_fin =>
          intro wq hbw
          try simp only [FinAll]
          simp only [Act.put, List.setIfInBounds_toArray, List.set_cons_zero, List.set_cons_succ]
          have HO2 : Hid (wq.ownsRow w.heap.size 3 1 _ out.length (out.map vi) ∧ Below w.heap.size w wq) := Lib.hid ⟨ownK_on HO.out.1 hbw, HO.out.2.trans (hbw.mono HO.out.2.size)⟩
          clear hbw
          go_wp2
          go_roundg (r.nums.length - (k + 1))
          case measure => have := HM.out; have := HLT.out; omega
          case rel => exact ⟨k + 1, by have := HLT.out; omega, by go_num, by rw [HE.out]; exact HO2.out.1, HO2.out.2⟩
    · have hki : ¬ (k : Int) < r.nums.length := by omega
      have HE : Hid ((r.nums.take k).filter g = r.nums.filter g) := Lib.hid (by rw [List.take_of_length_le (by omega)])
      go_wp2
      exact HF.out _ _ _ rfl (by rw [← HE.out]; exact Reads.of_owns HO.out.1) HO.out.2
end
end Go.Proofs.Ytmcdmcnbnnfhnaa
