/-
  Chapter 28: the message that the law makes.
-/
import Derived.Test.YtmcdmcnbnnfhnaaVg
import Derived.Test.YtmcdmcnbnnfhnaaSh
namespace Go.Proofs.Ytmcdmcnbnnfhnaa
open Go.RowKit
set_option maxRecDepth 100000

theorem copied_any {P : Nat → Prop} (v : Value) (l : Str) (w : World) (h : ReadsD P w v (bytesD l)) : Calls Try.prog 30 #[v] w (DeepMade w (bytesD l)) := by
  have HR := Lib.hid h
  have HV := Lib.hid (bytes_val l)
  obtain ⟨ao, cap, rfl, hl, hm, h0, hL⟩ := h.slc
  have HF : Hid (∀ v' e w', e = .returned v' → CloneOk P w 5 1 (l.map fun c => [.val (v8 c)]) v' w' → DeepMade w (bytesD l) e w') := Lib.hid fun v' e w' he hc => ⟨v', he, hc.deep (bytes_val l)⟩
  clear h
  generalize hQ : DeepMade w (bytesD l) = Q at *
  clear hQ
  cases ao with
  | none =>
    have hc := h0 rfl
    have hx : l = [] := by
      have : (l.map fun c => [DV.val (v8 c)]).length = 0 := by omega
      simpa using this
    subst hx hc
    clear HR HV hl hm h0 hL
    obtain ⟨i0, hi, hz0, hz1, hz2⟩ := info_parts Try.info_by
    have HO : Hid ((w.alloc (.cells #[] 5)).ownsRow w.heap.size 5 1 (.slice (some ⟨w.heap.size, 0, none⟩) 0 0) 0 []) := Lib.hid (World.ownsRow_made w #[] 0 (Nat.le_refl _) (Nat.zero_le _) (by simp))
    go_enter Try.func30, Try.ntmps30
    go_wp2_with (at_builtin; refine wpList_append_own_none rfl _ _ 22 rfl w.heap.size 5 i0 1 Try.underlying22 hi _ 0 [] rfl HO.out rfl ?_)
    exact HF.out _ _ _ rfl ⟨(Below.refl _ _).alloc (Nat.le_refl _) _, .inl ⟨rfl, _, _, rfl, Nat.zero_le _, fun e => by cases e⟩⟩
  | some ad =>
    have HLE : Hid ((l.map fun c => [DV.val (v8 c)]).length = l.length) := Lib.hid (by simp)
    clear h0 hl
    go_enter Try.func30, Try.ntmps30
    go_wp2_with (at_builtin; refine append_clone (P := P) (w := w) rfl _ _ 22 5 1 1 _ rfl Try.underlying22 Try.info_by rfl (by decide) (by decide) ad _ cap (l.map fun c => [.val (v8 c)]) rfl rfl rfl HR.out ?_)
    intro v' w' h'
    have HC := Lib.hid h'
    clear h'
    go_wp2
    exact HF.out _ _ _ rfl HC.out
def cmdX (tag delta : Str) : CmdM := ⟨1, 1, 1, [⟨[97], delta⟩], 0, tag⟩
def claimX (tag delta root : Str) : ClaimM := ⟨0, 0, 0, [⟨1, 2, tag⟩], [], [cmdX tag delta], 0, root⟩
def msgX (tag delta root : Str) : MsgM := ⟨3, 1, 2, 0, 0, 0, [], [], [cmdX tag delta], [], [⟨[], ⟨claimX tag delta root, [⟨1, tag⟩]⟩⟩], [], [[97]], 0, [⟨[97], false, delta, [root]⟩]⟩
def BytesV (B : Nat) (l : Str) (x : Value) (w : World) : Prop := ∃ s t, x = .slice s l.length t ∧ ReadsD (fun k => B ≤ k) w (.slice s l.length t) (bytesD l)
theorem BytesV.on {B : Nat} {l : Str} (x : Value) (w w' : World) (hb : Below w.heap.size w w') (h : BytesV B l x w) : BytesV B l x w' := by
  obtain ⟨s, t, e, h⟩ := h; exact ⟨s, t, e, h.on hb⟩
theorem deepV {B : Nat} {l : Str} {w w' : World} {v : Value} (hB : B ≤ w.heap.size) (h : ReadsD (fun k => w.heap.size ≤ k) w' v (bytesD l)) : BytesV B l v w' := by
  obtain ⟨s, t, rfl, -⟩ := h.bslc
  exact ⟨s, t, rfl, h.mono fun k hk _ => Nat.le_trans hB hk⟩
def OneV (B : Nat) (d : DV) (x : Value) (w : World) : Prop := ∃ g, x = .slice (some ⟨g, 0, none⟩) 1 1 ∧ ReadsD (fun k => B ≤ k) w (.slice (some ⟨g, 0, none⟩) 1 1) d
theorem OneV.on {B : Nat} {d : DV} (x : Value) (w w' : World) (hb : Below w.heap.size w w') (h : OneV B d x w) : OneV B d x w' := by
  obtain ⟨g, e, h⟩ := h; exact ⟨g, e, h.on hb⟩
theorem oneV {B : Nat} {T : TypeId} {K g : Nat} {w : World} {ds : List DV} {cs : List Value} (h : CellsD (fun k => B ≤ k) w cs ds) (hK : ds.length = K) (hg : w.heap.size = g) (hB : B ≤ g) : OneV B (.ls K [ds]) (.slice (some ⟨g, 0, none⟩) 1 1) (w.alloc (.cells cs.toArray T)) :=
  ⟨g, rfl, (built_at h hK hg).mono fun k hk _ => by rcases hk with h | rfl; exact h; exact hB⟩
theorem one_built {B : Nat} {T : TypeId} {K g : Nat} {w : World} {ds : List DV} {cs : List Value} (h : CellsD (fun k => B ≤ k) w cs ds) (hK : ds.length = K) (hg : w.heap.size = g) (hB : B ≤ g) : ReadsD (fun k => B ≤ k) (w.alloc (.cells cs.toArray T)) (.slice (some ⟨g, 0, none⟩) 1 1) (.ls K [ds]) :=
  (built_at h hK hg).mono fun k hk _ => by rcases hk with h | rfl; exact h; exact hB
theorem cells_snoc {P : Nat → Prop} {w : World} {cs : List Value} {ds : List DV} {v : Value} {d : DV} (h : CellsD P w cs ds) (hv : ReadsD P w v d) : CellsD P w (cs ++ [v]) (ds ++ [d]) := by
  induction ds generalizing cs with
  | nil => rw [h.nil]; exact .mk hv .empty
  | cons e ds ih => obtain ⟨u, cs', rfl, h1, h2⟩ := h.cons; exact .mk h1 (ih h2)
theorem nilD (P : Nat → Prop) (w : World) (K : Nat) : ReadsD P w (.slice none 0 0) (.ls K []) := .nil K none 0 (by simp [maxLen]) fun _ => rfl
/-- Data whose lists all hold a value that is none of Z. -/
inductive Clear (Z : Value → Prop) : DV → Prop
  | val (v : Value) : Clear Z (.val v)
  | ls (K : Nat) (xs : List (List DV)) (h : ∀ x ∈ xs, ∃ u, DV.val u ∈ x ∧ ¬ Z u) (hr : ∀ x ∈ xs, ∀ d ∈ x, Clear Z d) : Clear Z (.ls K xs)
theorem ReadsD.avoid {P : Nat → Prop} {Zv : Value → Prop} {w : World} {v : Value} {d : DV} {g : Nat} (h : ReadsD P w v d) (hc : Clear Zv d) (hB : ∀ i u, w.cell? ⟨g, i, none⟩ = some u → Zv u) : ReadsD (fun k => P k ∧ k ≠ g) w v d := by
  induction h with
  | val v h1 => exact .val v h1
  | nil K ao cap hm h0 => exact .nil K ao cap hm h0
  | @ls K xs b off cap us h0 hL hc' hm hP hb hF hK ha hr ih =>
    cases hc with
    | ls _ _ h1 h2 =>
      refine .ls us h0 hL hc' hm ⟨hP, ?_⟩ hb hF hK ha fun j hj i hi => ih j hj i hi (h2 _ (List.getElem_mem hj) _ (List.getElem_mem hi))
      rintro rfl
      have hpos := List.length_pos_iff.2 h0
      obtain ⟨u, hu, hz⟩ := h1 _ (List.getElem_mem hpos)
      obtain ⟨i, hi, he⟩ := List.getElem_of_mem hu
      have h3 := hr 0 hpos i hi
      rw [he] at h3
      have h4 := h3.atv
      have h5 := ha 0 hpos i (by rw [← hK 0 hpos]; exact hi)
      rw [h4] at h5
      exact hz (hB _ _ h5)
def Zv (u : Value) : Prop := u = .int .i64 0 ∨ u = .slice none 0 0
theorem clear_bytes (l : Str) : Clear Zv (bytesD l) := by
  refine .ls 1 _ (fun x hx => ?_) fun x hx d hd => ?_
  · obtain ⟨c, _, rfl⟩ := List.mem_map.1 hx
    exact ⟨v8 c, by simp, by unfold Zv v8; rintro (h | h) <;> cases h⟩
  · obtain ⟨c, _, rfl⟩ := List.mem_map.1 hx
    rw [List.mem_singleton] at hd
    subst hd; exact .val _
theorem one_clear {K : Nat} {x : List DV} {u : Value} (h : DV.val u ∈ x) (hz : ¬ Zv u) (hr : ∀ d ∈ x, Clear Zv d) : Clear Zv (.ls K [x]) := by
  refine .ls K _ (fun y hy => ?_) fun y hy => ?_
  all_goals
    rw [List.mem_singleton] at hy
    subst hy
  · exact ⟨u, h, hz⟩
  · exact hr
theorem nz_int {n : Int} (h : n ≠ 0) : ¬ Zv (.int .i64 n) := by unfold Zv; rintro (h' | h'); injection h' with _ h'; exact h h'; cases h'
theorem nz_str (s : Str) : ¬ Zv (vs s) := by unfold Zv vs; rintro (h' | h') <;> cases h'
theorem clear_i (n : Int) : Clear Zv (iD n) := .val _
theorem clear_wrs (delta : Str) : Clear Zv (wrsD [⟨[97], delta⟩]) := one_clear (x := wrD ⟨[97], delta⟩) (u := vs [97]) (by simp [wrD, sD]) (nz_str _) (by simp only [wrD, List.mem_cons, List.not_mem_nil, or_false]; rintro d (rfl | rfl); exact .val _; exact clear_bytes _)
theorem clear_rids (tag : Str) : Clear Zv (ridsD [⟨1, 2, tag⟩]) := one_clear (x := ridD ⟨1, 2, tag⟩) (u := .int .i64 1) (by simp [ridD, iD]) (nz_int (by decide)) (by simp only [ridD, List.mem_cons, List.not_mem_nil, or_false]; rintro d (rfl | rfl | rfl); exact .val _; exact .val _; exact clear_bytes _)
theorem clear_cmds (tag delta : Str) : Clear Zv (cmdsD [cmdX tag delta]) := one_clear (x := cmdD (cmdX tag delta)) (u := .int .i64 1) (by simp [cmdD, cmdX, iD]) (nz_int (by decide)) (by simp only [cmdD, cmdX, List.mem_cons, List.not_mem_nil, or_false]; rintro d (rfl | rfl | rfl | rfl | rfl | rfl); exact .val _; exact .val _; exact .val _; exact clear_wrs _; exact .val _; exact clear_bytes _)
theorem zero_claim_cells {w : World} {g : Nat} (h : Blk w g 85 #[.int .i64 0, .int .i64 0, .int .i64 0, .slice none 0 0, .slice none 0 0, .slice none 0 0, .int .i64 0, .slice none 0 0]) (i : Nat) (u : Value) (hu : w.cell? ⟨g, i, none⟩ = some u) : Zv u := by
  rw [h.cell] at hu
  unfold Zv
  match i, hu with
  | 0, hu => exact .inl (by injection hu with hu; exact hu.symm)
  | 1, hu => exact .inl (by injection hu with hu; exact hu.symm)
  | 2, hu => exact .inl (by injection hu with hu; exact hu.symm)
  | 3, hu => exact .inr (by injection hu with hu; exact hu.symm)
  | 4, hu => exact .inr (by injection hu with hu; exact hu.symm)
  | 5, hu => exact .inr (by injection hu with hu; exact hu.symm)
  | 6, hu => exact .inl (by injection hu with hu; exact hu.symm)
  | 7, hu => exact .inr (by injection hu with hu; exact hu.symm)
  | i + 8, hu => simp at hu
set_option maxHeartbeats 8000000 in
theorem lawmsg_any {P1 P2 P3 : Nat → Prop} (vt vd vr : Value) (tag delta root : Str) (W : World) (ht : ReadsD P1 W vt (bytesD tag)) (hd : ReadsD P2 W vd (bytesD delta)) (hr : ReadsD P3 W vr (bytesD root)) :
    Calls Try.prog 10 #[vt, vd, vr] W (AggMade W (msgD (msgX tag delta root))) := by
  have HT := Lib.hid ht
  have HD := Lib.hid hd
  have HR := Lib.hid hr
  obtain ⟨ts, tt, rfl, -⟩ := ht.bslc
  obtain ⟨ds, dt, rfl, -⟩ := hd.bslc
  obtain ⟨rs, rt, rfl, -⟩ := hr.bslc
  clear ht hd hr
  have HF : Hid (∀ e w', (∃ cs : List Value, e = .returned (.agg cs.toArray) ∧ Below W.heap.size W w' ∧ CellsD (fun b => W.heap.size ≤ b) w' cs (msgD (msgX tag delta root))) → AggMade W (msgD (msgX tag delta root)) e w') := Lib.hid fun _ _ h => h
  generalize hQ : AggMade W (msgD (msgX tag delta root)) = Q at *
  clear hQ
  have HB : Hid (Blk (W.alloc (.cells zeroC.toArray 39)) W.heap.size 39 zeroC.toArray ∧ Below W.heap.size W (W.alloc (.cells zeroC.toArray 39)) ∧ (W.alloc (.cells zeroC.toArray 39)).heap.size = W.heap.size + 1) := Lib.hid ⟨Blk.new W _ _, (Below.refl _ _).alloc (Nat.le_refl _) _, World.size_alloc _ _⟩
  go_enter Try.func10, Try.ntmps10
  go_upto_region 1 with fail
  change Code.wp _ _ _ _ (W.alloc (.cells zeroC.toArray 39))
  generalize hw0 : World.alloc W _ = w0 at HB ⊢
  clear hw0
  have HCL := Lib.hid (copied_any _ delta w0 (HD.out.on HB.out.2.1))
  go_wp2_with fail
  refine HCL.out.mono ?_
  rintro e w1 ⟨v1, rfl, hb1, h1⟩
  obtain ⟨s1, t1, rfl, hx1⟩ := deepV (B := W.heap.size + 1) (Nat.le_of_eq HB.out.2.2.symm) h1
  have HX1 := Lib.hid hx1
  have HB1 : Hid (Blk w1 W.heap.size 39 zeroC.toArray ∧ Below W.heap.size W w1 ∧ W.heap.size + 1 ≤ w1.heap.size) := Lib.hid ⟨HB.out.1.on hb1, HB.out.2.1.trans (hb1.mono HB.out.2.1.size), by have h2 := HB.out.2.2; have h3 := hb1.size; omega⟩
  clear HCL hb1 h1 hx1 HB
  have HWA : Hid (Blk (w1.alloc (.cells #[.string ⟨#[97]⟩, .slice s1 delta.length t1] 78)) W.heap.size 39 zeroC.toArray ∧ Below W.heap.size W (w1.alloc (.cells #[.string ⟨#[97]⟩, .slice s1 delta.length t1] 78)) ∧ W.heap.size + 1 ≤ (w1.alloc (.cells #[.string ⟨#[97]⟩, .slice s1 delta.length t1] 78)).heap.size ∧ ReadsD (fun k => W.heap.size + 1 ≤ k) (w1.alloc (.cells #[.string ⟨#[97]⟩, .slice s1 delta.length t1] 78)) (.slice (some ⟨w1.heap.size, 0, none⟩) 1 1) (wrsD [⟨[97], delta⟩])) :=
    Lib.hid ⟨HB1.out.1.alloc _, HB1.out.2.1.alloc HB1.out.2.1.size _, by rw [World.size_alloc]; have := HB1.out.2.2; omega, one_built (ds := wrD ⟨[97], delta⟩) (.mk (readsD_s _ _ [97]) (.mk HX1.out .empty)) rfl rfl HB1.out.2.2⟩
  clear HB1 HX1
  go_wp2_with fail
  generalize hwa : World.alloc w1 _ = wa at HWA ⊢
  generalize w1.heap.size = g1 at *
  clear hwa
  have HCL := Lib.hid (copied_any _ tag wa (HT.out.on HWA.out.2.1))
  refine HCL.out.mono ?_
  rintro e w2 ⟨v2, rfl, hb2, h2⟩
  obtain ⟨s2, t2, rfl, hx2⟩ := deepV (B := W.heap.size + 1) HWA.out.2.2.1 h2
  have HB2 : Hid (Blk w2 W.heap.size 39 zeroC.toArray ∧ Below W.heap.size W w2 ∧ W.heap.size + 1 ≤ w2.heap.size ∧ ReadsD (fun k => W.heap.size + 1 ≤ k) w2 (.slice (some ⟨g1, 0, none⟩) 1 1) (wrsD [⟨[97], delta⟩]) ∧ ReadsD (fun k => W.heap.size + 1 ≤ k) w2 (.slice s2 tag.length t2) (bytesD tag)) :=
    Lib.hid ⟨HWA.out.1.on hb2, HWA.out.2.1.trans (hb2.mono HWA.out.2.1.size), Nat.le_trans HWA.out.2.2.1 hb2.size, HWA.out.2.2.2.on hb2, hx2⟩
  clear HCL hb2 h2 hx2 HWA
  go_upto_region 2 with fail
  have H3 : Hid (Blk (w2.alloc (.cells #[.int .i64 1, .int .i64 1, .int .i64 1, .slice (some ⟨g1, 0, none⟩) 1 1, .int .i64 0, .slice s2 tag.length t2] 81)) W.heap.size 39 zeroC.toArray ∧ Below W.heap.size W (w2.alloc (.cells #[.int .i64 1, .int .i64 1, .int .i64 1, .slice (some ⟨g1, 0, none⟩) 1 1, .int .i64 0, .slice s2 tag.length t2] 81)) ∧ W.heap.size + 1 ≤ (w2.alloc (.cells #[.int .i64 1, .int .i64 1, .int .i64 1, .slice (some ⟨g1, 0, none⟩) 1 1, .int .i64 0, .slice s2 tag.length t2] 81)).heap.size ∧ Blk (w2.alloc (.cells #[.int .i64 1, .int .i64 1, .int .i64 1, .slice (some ⟨g1, 0, none⟩) 1 1, .int .i64 0, .slice s2 tag.length t2] 81)) w2.heap.size 81 #[.int .i64 1, .int .i64 1, .int .i64 1, .slice (some ⟨g1, 0, none⟩) 1 1, .int .i64 0, .slice s2 tag.length t2] ∧ CellsD (fun k => W.heap.size + 1 ≤ k) (w2.alloc (.cells #[.int .i64 1, .int .i64 1, .int .i64 1, .slice (some ⟨g1, 0, none⟩) 1 1, .int .i64 0, .slice s2 tag.length t2] 81)) [.int .i64 1, .int .i64 1, .int .i64 1, .slice (some ⟨g1, 0, none⟩) 1 1, .int .i64 0, .slice s2 tag.length t2] (cmdD (cmdX tag delta))) := Lib.hid (by
    have hb : Below w2.heap.size w2 (w2.alloc (.cells #[.int .i64 1, .int .i64 1, .int .i64 1, .slice (some ⟨g1, 0, none⟩) 1 1, .int .i64 0, .slice s2 tag.length t2] 81)) := (Below.refl _ _).alloc (Nat.le_refl _) _
    exact ⟨HB2.out.1.alloc _, HB2.out.2.1.trans (hb.mono HB2.out.2.1.size), Nat.le_trans HB2.out.2.2.1 hb.size, Blk.new w2 _ _, .mk (readsD_i _ _ _) (.mk (readsD_i _ _ _) (.mk (readsD_i _ _ _) (.mk (HB2.out.2.2.2.1.on hb) (.mk (readsD_i _ _ _) (.mk (HB2.out.2.2.2.2.on hb) .empty)))))⟩)
  clear HB2
  generalize hw3 : World.alloc w2 _ = w3 at H3 ⊢
  generalize w2.heap.size = g2 at *
  clear hw3
  refine region_tail [.is (.slice ts tag.length tt), (.has (BytesV (W.heap.size + 1) tag) BytesV.on), (.has (fun x w => ∃ s t, x = .agg #[.int .i64 1, .int .i64 2, .slice s tag.length t] ∧ ReadsD (fun k => W.heap.size + 1 ≤ k) w (.slice s tag.length t) (bytesD tag)) fun x w w' hb ⟨s, t, e, h0⟩ => ⟨s, t, e, h0.on hb⟩), (.has (OneV (W.heap.size + 1) (ridsD [⟨1, 2, tag⟩])) OneV.on), .is (.agg #[.int .i64 1, .int .i64 1, .int .i64 1, .slice (some ⟨g1, 0, none⟩) 1 1, .int .i64 0, .slice s2 tag.length t2]), (.has (OneV (W.heap.size + 1) (cmdsD [cmdX tag delta])) OneV.on), .is (.slice rs root.length rt), (.has (BytesV (W.heap.size + 1) root) BytesV.on), (.has (fun x w => ∃ ga gb sa ta, x = .agg #[.int .i64 0, .int .i64 0, .int .i64 0, .slice (some ⟨ga, 0, none⟩) 1 1, .slice none 0 0, .slice (some ⟨gb, 0, none⟩) 1 1, .int .i64 0, .slice sa root.length ta] ∧ ReadsD (fun k => W.heap.size + 1 ≤ k) w (.slice (some ⟨ga, 0, none⟩) 1 1) (ridsD [⟨1, 2, tag⟩]) ∧ ReadsD (fun k => W.heap.size + 1 ≤ k) w (.slice (some ⟨gb, 0, none⟩) 1 1) (cmdsD [cmdX tag delta]) ∧ ReadsD (fun k => W.heap.size + 1 ≤ k) w (.slice sa root.length ta) (bytesD root)) fun x w w' hb ⟨ga, gb, sa, ta, e, h0, h1, h2⟩ => ⟨ga, gb, sa, ta, e, h0.on hb, h1.on hb, h2.on hb⟩), (.has (fun x w => ∃ g, x = .pointer (some ⟨g, 0, none⟩) ∧ Blk w g 85 #[.int .i64 0, .int .i64 0, .int .i64 0, .slice none 0 0, .slice none 0 0, .slice none 0 0, .int .i64 0, .slice none 0 0] ∧ w3.heap.size ≤ g) fun x w w' hb ⟨g, e, h1, h2⟩ => ⟨g, e, h1.on hb, h2⟩), .is undef] 10 (by kernel_rfl) rfl (by kernel_rfl) (by kernel_rfl) (by kernel_rfl) (by kernel_rfl) rfl (.cons ?c_0 (.cons ?c_1 (.cons ?c_2 (.cons ?c_3 (.cons ?c_4 (.cons ?c_5 (.cons ?c_6 (.cons ?c_7 (.cons ?c_8 (.cons ?c_9 .nil)))))))))) ?c_fin
  case c_0 =>
    intro wq hbw st  K hK
    simp only [Act.put, List.setIfInBounds_toArray, List.set_cons_zero, List.set_cons_succ] at hK ⊢
    unfold opStep
    rw [if_pos (by rfl)]
    go_simp
    exact hK.out _ _ (Below.refl _ _) rfl _ rfl
  case c_1 =>
    intro wq hbw st  K hK
    simp only [Act.put, List.setIfInBounds_toArray, List.set_cons_zero, List.set_cons_succ] at hK ⊢
    unfold opStep
    rw [if_pos (by rfl)]
    go_simp
    refine (copied_any _ tag wq (HT.out.on (H3.out.2.1.trans (hbw.mono H3.out.2.1.size)))).mono ?_
    rintro e wz ⟨v, rfl, hbz, hv⟩
    go_simp
    exact hK.out _ _ hbz (deepV (Nat.le_trans H3.out.2.2.1 hbw.size) hv) _ rfl
  case c_2 =>
    intro wq hbw st x1 h1 K hK
    simp only [Act.put, List.setIfInBounds_toArray, List.set_cons_zero, List.set_cons_succ] at hK ⊢
    unfold opStep
    rw [if_pos (by rfl)]
    obtain ⟨s, t, rfl, hb⟩ := h1
    go_simp
    exact hK.out _ _ (Below.refl _ _) ⟨s, t, rfl, hb⟩ _ rfl
  case c_3 =>
    intro wq hbw st x2 h2 K hK
    simp only [Act.put, List.setIfInBounds_toArray, List.set_cons_zero, List.set_cons_succ] at hK ⊢
    unfold opStep
    rw [if_pos (by rfl)]
    obtain ⟨s, t, rfl, hb⟩ := h2
    go_simp
    exact hK.out _ _ ((Below.refl _ _).alloc (Nat.le_refl _) _) (oneV (ds := ridD ⟨1, 2, tag⟩) (.mk (readsD_i _ _ _) (.mk (readsD_i _ _ _) (.mk hb .empty))) rfl rfl (Nat.le_trans H3.out.2.2.1 hbw.size)) _ rfl
  case c_4 =>
    intro wq hbw st  K hK
    simp only [Act.put, List.setIfInBounds_toArray, List.set_cons_zero, List.set_cons_succ] at hK ⊢
    unfold opStep
    rw [if_pos (by rfl)]
    refine wp_load_mid 81 (.tmp 7) (by rfl) g2 0 (by rfl) [.int .i64 1, .int .i64 1, .int .i64 1, .slice (some ⟨g1, 0, none⟩) 1 1, .int .i64 0, .slice s2 tag.length t2] _ (Blk.range (H3.out.2.2.2.1.on hbw)) Try.underlying81 (by rfl) cmd_size ?_
    exact hK.out _ _ (Below.refl _ _) rfl _ rfl
  case c_5 =>
    intro wq hbw st  K hK
    simp only [Act.put, List.setIfInBounds_toArray, List.set_cons_zero, List.set_cons_succ] at hK ⊢
    unfold opStep
    rw [if_pos (by rfl)]
    go_simp
    exact hK.out _ _ ((Below.refl _ _).alloc (Nat.le_refl _) _) (oneV (ds := cmdD (cmdX tag delta)) (H3.out.2.2.2.2.on hbw) rfl rfl (Nat.le_trans H3.out.2.2.1 hbw.size)) _ rfl
  case c_6 =>
    intro wq hbw st  K hK
    simp only [Act.put, List.setIfInBounds_toArray, List.set_cons_zero, List.set_cons_succ] at hK ⊢
    unfold opStep
    rw [if_pos (by rfl)]
    go_simp
    exact hK.out _ _ (Below.refl _ _) rfl _ rfl
  case c_7 =>
    intro wq hbw st x1 h1 K hK
    simp only [Act.put, List.setIfInBounds_toArray, List.set_cons_zero, List.set_cons_succ] at hK ⊢
    unfold opStep
    rw [if_pos (by rfl)]
    go_simp
    refine (copied_any _ root wq (HR.out.on (H3.out.2.1.trans (hbw.mono H3.out.2.1.size)))).mono ?_
    rintro e wz ⟨v, rfl, hbz, hv⟩
    go_simp
    exact hK.out _ _ hbz (deepV (Nat.le_trans H3.out.2.2.1 hbw.size) hv) _ rfl
  case c_8 =>
    intro wq hbw st x3 h3 x5 h5 x7 h7 K hK
    simp only [Act.put, List.setIfInBounds_toArray, List.set_cons_zero, List.set_cons_succ] at hK ⊢
    unfold opStep
    rw [if_pos (by rfl)]
    obtain ⟨ga, rfl, ha⟩ := h3
    obtain ⟨gb, rfl, hc⟩ := h5
    obtain ⟨sa, ta, rfl, hd⟩ := h7
    go_simp
    exact hK.out _ _ (Below.refl _ _) ⟨ga, gb, sa, ta, rfl, ha, hc, hd⟩ _ rfl
  case c_9 =>
    intro wq hbw st  K hK
    simp only [Act.put, List.setIfInBounds_toArray, List.set_cons_zero, List.set_cons_succ] at hK ⊢
    unfold opStep
    rw [if_pos (by rfl)]
    go_simp
    exact hK.out _ _ ((Below.refl _ _).alloc (Nat.le_refl _) _) ⟨_, rfl, Blk.new wq _ _, hbw.size⟩ _ rfl
  case c_fin =>
    intro wq hbw
    intro x1 h1 x2 h2 x3 h3 x5 h5 x7 h7 x8 h8 x9 h9
    try simp only [FinAll]
    simp only [List.drop_succ_cons, List.drop_zero]
    simp only [Act.put, List.setIfInBounds_toArray, List.set_cons_zero, List.set_cons_succ]
    obtain ⟨ga, gb, sa, ta, rfl, ha, hc, hd⟩ := h8
    obtain ⟨gc, rfl, hz, hg⟩ := h9
    have HQ : Hid (Blk wq W.heap.size 39 zeroC.toArray ∧ Below W.heap.size W wq ∧ W.heap.size + 1 ≤ gc ∧ Blk wq g2 81 #[.int .i64 1, .int .i64 1, .int .i64 1, .slice (some ⟨g1, 0, none⟩) 1 1, .int .i64 0, .slice s2 tag.length t2] ∧ CellsD (fun k => W.heap.size + 1 ≤ k ∧ k ≠ gc) wq [.int .i64 1, .int .i64 1, .int .i64 1, .slice (some ⟨g1, 0, none⟩) 1 1, .int .i64 0, .slice s2 tag.length t2] (cmdD (cmdX tag delta)) ∧ g2 ≠ gc) := Lib.hid (by
      have hlt := H3.out.2.2.2.1.lt
      have hon := H3.out.2.2.2.2.on hbw
      have hcell := zero_claim_cells hz
      refine ⟨H3.out.1.on hbw, H3.out.2.1.trans (hbw.mono H3.out.2.1.size), Nat.le_trans H3.out.2.2.1 hg, H3.out.2.2.2.1.on hbw, ⟨hon.1, fun i u d e1 e2 => (hon.2 i u d e1 e2).avoid (Zv := Zv) ?_ hcell⟩, by omega⟩
      match i, e2 with
      | 0, e2 => injection e2 with e2; subst e2; exact .val _
      | 1, e2 => injection e2 with e2; subst e2; exact .val _
      | 2, e2 => injection e2 with e2; subst e2; exact .val _
      | 3, e2 => injection e2 with e2; subst e2; exact clear_wrs _
      | 4, e2 => injection e2 with e2; subst e2; exact .val _
      | 5, e2 => injection e2 with e2; subst e2; exact clear_bytes _
      | i + 6, e2 => simp [cmdD] at e2)
    have HV := Lib.hid (And.intro (ha.avoid (clear_rids _) (zero_claim_cells hz)) (And.intro (hc.avoid (clear_cmds _ _) (zero_claim_cells hz)) (hd.avoid (clear_bytes _) (zero_claim_cells hz))))
    have HZ := Lib.hid hz
    clear ha hc hd hz hg hbw H3
    refine wpList_store_box rfl 85 (.tmp 8) (.tmp 24) rfl gc 85 _ #[.int .i64 0, .int .i64 0, .int .i64 0, .slice (some ⟨ga, 0, none⟩) 1 1, .slice none 0 0, .slice (some ⟨gb, 0, none⟩) 1 1, .int .i64 0, .slice sa root.length ta] rfl rfl HZ.out (by kernel_rfl) rfl (by simp [Value.oneCell']) ?_
    intro w4 hB4 hk4
    have H4 : Hid (Blk w4 W.heap.size 39 zeroC.toArray ∧ Below W.heap.size W w4 ∧ W.heap.size + 1 ≤ w4.heap.size ∧ Blk w4 g2 81 #[.int .i64 1, .int .i64 1, .int .i64 1, .slice (some ⟨g1, 0, none⟩) 1 1, .int .i64 0, .slice s2 tag.length t2] ∧ CellsD (fun k => W.heap.size + 1 ≤ k) w4 [.int .i64 1, .int .i64 1, .int .i64 1, .slice (some ⟨g1, 0, none⟩) 1 1, .int .i64 0, .slice s2 tag.length t2] (cmdD (cmdX tag delta)) ∧ Blk w4 gc 85 #[.int .i64 0, .int .i64 0, .int .i64 0, .slice (some ⟨ga, 0, none⟩) 1 1, .slice none 0 0, .slice (some ⟨gb, 0, none⟩) 1 1, .int .i64 0, .slice sa root.length ta] ∧ CellsD (fun k => W.heap.size + 1 ≤ k) w4 [.int .i64 0, .int .i64 0, .int .i64 0, .slice (some ⟨ga, 0, none⟩) 1 1, .slice none 0 0, .slice (some ⟨gb, 0, none⟩) 1 1, .int .i64 0, .slice sa root.length ta] (claimD (claimX tag delta root))) := Lib.hid (by
      have h1 := HQ.out.2.2.1
      have hm : ∀ {v : Value} {d : DV}, ReadsD (fun k => W.heap.size + 1 ≤ k ∧ k ≠ gc) wq v d → ReadsD (fun k => W.heap.size + 1 ≤ k) w4 v d := fun h => (h.kept hk4 fun k hk e => hk.2 e).mono fun k hk _ => hk.1
      exact ⟨hk4.blk HQ.out.1 (by show ¬ W.heap.size = gc; omega), HQ.out.2.1.trans (hk4.below HQ.out.2.1.size fun k hk e => by omega), Nat.le_trans (Nat.le_trans h1 (Nat.le_of_lt HZ.out.lt)) hk4.size, hk4.blk HQ.out.2.2.2.1 HQ.out.2.2.2.2.2, ⟨HQ.out.2.2.2.2.1.1, fun i u d e1 e2 => hm (HQ.out.2.2.2.2.1.2 i u d e1 e2)⟩, hB4, .mk (readsD_i _ _ _) (.mk (readsD_i _ _ _) (.mk (readsD_i _ _ _) (.mk (hm HV.out.1) (.mk (nilD _ _ _) (.mk (hm HV.out.2.1) (.mk (readsD_i _ _ _) (.mk (hm HV.out.2.2) .empty)))))))⟩)
    clear hB4 hk4 HV HZ HQ
    go_wp2
    refine region_tail [.is (.agg #[.int .i64 1, .int .i64 1, .int .i64 1, .slice (some ⟨g1, 0, none⟩) 1 1, .int .i64 0, .slice s2 tag.length t2]), (.has (OneV (W.heap.size + 1) (cmdsD [cmdX tag delta])) OneV.on), .is (.agg #[.int .i64 0, .int .i64 0, .int .i64 0, .slice (some ⟨ga, 0, none⟩) 1 1, .slice none 0 0, .slice (some ⟨gb, 0, none⟩) 1 1, .int .i64 0, .slice sa root.length ta]), .is (.slice ts tag.length tt), (.has (BytesV (W.heap.size + 1) tag) BytesV.on), (.has (fun x w => ∃ s t, x = .agg #[.int .i64 1, .slice s tag.length t] ∧ ReadsD (fun k => W.heap.size + 1 ≤ k) w (.slice s tag.length t) (bytesD tag)) fun x w w' hb ⟨s, t, e, h0⟩ => ⟨s, t, e, h0.on hb⟩), (.has (OneV (W.heap.size + 1) (acksD [⟨1, tag⟩])) OneV.on), (.has (fun x w => ∃ gd, x = .agg #[.int .i64 0, .int .i64 0, .int .i64 0, .slice (some ⟨ga, 0, none⟩) 1 1, .slice none 0 0, .slice (some ⟨gb, 0, none⟩) 1 1, .int .i64 0, .slice sa root.length ta, .slice (some ⟨gd, 0, none⟩) 1 1] ∧ ReadsD (fun k => W.heap.size + 1 ≤ k) w (.slice (some ⟨gd, 0, none⟩) 1 1) (acksD [⟨1, tag⟩])) fun x w w' hb ⟨gd, e, h0⟩ => ⟨gd, e, h0.on hb⟩), (.has (fun x w => ∃ gd, x = .agg #[.slice none 0 0, .int .i64 0, .int .i64 0, .int .i64 0, .slice (some ⟨ga, 0, none⟩) 1 1, .slice none 0 0, .slice (some ⟨gb, 0, none⟩) 1 1, .int .i64 0, .slice sa root.length ta, .slice (some ⟨gd, 0, none⟩) 1 1] ∧ ReadsD (fun k => W.heap.size + 1 ≤ k) w (.slice (some ⟨gd, 0, none⟩) 1 1) (acksD [⟨1, tag⟩])) fun x w w' hb ⟨gd, e, h0⟩ => ⟨gd, e, h0.on hb⟩), (.has (OneV (W.heap.size + 1) (proofsD [⟨[], ⟨claimX tag delta root, [⟨1, tag⟩]⟩⟩])) OneV.on), (.has (OneV (W.heap.size + 1) (objsD [[97]])) OneV.on), .is (.slice ds delta.length dt), (.has (BytesV (W.heap.size + 1) delta) BytesV.on), .is (.slice rs root.length rt), (.has (BytesV (W.heap.size + 1) root) BytesV.on), (.has (OneV (W.heap.size + 1) (pathD [root])) OneV.on), (.has (fun x w => ∃ s t g, x = .agg #[.string ⟨#[97]⟩, .bool false, .slice s delta.length t, .slice (some ⟨g, 0, none⟩) 1 1] ∧ ReadsD (fun k => W.heap.size + 1 ≤ k) w (.slice s delta.length t) (bytesD delta) ∧ ReadsD (fun k => W.heap.size + 1 ≤ k) w (.slice (some ⟨g, 0, none⟩) 1 1) (pathD [root])) fun x w w' hb ⟨s, t, g, e, h0, h1⟩ => ⟨s, t, g, e, h0.on hb, h1.on hb⟩), (.has (OneV (W.heap.size + 1) (itemsD [⟨[97], false, delta, [root]⟩])) OneV.on), (.has (fun x w => ∃ cs : List Value, x = .agg cs.toArray ∧ CellsD (fun k => W.heap.size + 1 ≤ k) w cs (msgD (msgX tag delta root))) fun x w w' hb ⟨cs, e, h⟩ => ⟨cs, e, h.on hb⟩), .is undef] 19 (by kernel_rfl) rfl (by kernel_rfl) (by kernel_rfl) (by kernel_rfl) (by kernel_rfl) rfl (.cons ?d_0 (.cons ?d_1 (.cons ?d_2 (.cons ?d_3 (.cons ?d_4 (.cons ?d_5 (.cons ?d_6 (.cons ?d_7 (.cons ?d_8 (.cons ?d_9 (.cons ?d_10 (.cons ?d_11 (.cons ?d_12 (.cons ?d_13 (.cons ?d_14 (.cons ?d_15 (.cons ?d_16 (.cons ?d_17 (.cons ?d_18 .nil))))))))))))))))))) ?d_fin
    case d_0 =>
      intro wq hbw st  K hK
      simp only [Act.put, List.setIfInBounds_toArray, List.set_cons_zero, List.set_cons_succ] at hK ⊢
      unfold opStep
      rw [if_pos (by rfl)]
      refine wp_load_mid 81 (.tmp 7) (by rfl) g2 0 (by rfl) [.int .i64 1, .int .i64 1, .int .i64 1, .slice (some ⟨g1, 0, none⟩) 1 1, .int .i64 0, .slice s2 tag.length t2] _ (Blk.range (H4.out.2.2.2.1.on hbw)) Try.underlying81 (by rfl) cmd_size ?_
      exact hK.out _ _ (Below.refl _ _) rfl _ rfl
    case d_1 =>
      intro wq hbw st  K hK
      simp only [Act.put, List.setIfInBounds_toArray, List.set_cons_zero, List.set_cons_succ] at hK ⊢
      unfold opStep
      rw [if_pos (by rfl)]
      go_simp
      exact hK.out _ _ ((Below.refl _ _).alloc (Nat.le_refl _) _) (oneV (ds := cmdD (cmdX tag delta)) (H4.out.2.2.2.2.1.on hbw) rfl rfl (Nat.le_trans H4.out.2.2.1 hbw.size)) _ rfl
    case d_2 =>
      intro wq hbw st  K hK
      simp only [Act.put, List.setIfInBounds_toArray, List.set_cons_zero, List.set_cons_succ] at hK ⊢
      unfold opStep
      rw [if_pos (by rfl)]
      refine wp_load_mid 85 (.tmp 8) (by rfl) gc 0 (by rfl) [.int .i64 0, .int .i64 0, .int .i64 0, .slice (some ⟨ga, 0, none⟩) 1 1, .slice none 0 0, .slice (some ⟨gb, 0, none⟩) 1 1, .int .i64 0, .slice sa root.length ta] _ (Blk.range (H4.out.2.2.2.2.2.1.on hbw)) Try.underlying85 (by rfl) claim_size ?_
      exact hK.out _ _ (Below.refl _ _) rfl _ rfl
    case d_3 =>
      intro wq hbw st  K hK
      simp only [Act.put, List.setIfInBounds_toArray, List.set_cons_zero, List.set_cons_succ] at hK ⊢
      unfold opStep
      rw [if_pos (by rfl)]
      go_simp
      exact hK.out _ _ (Below.refl _ _) rfl _ rfl
    case d_4 =>
      intro wq hbw st  K hK
      simp only [Act.put, List.setIfInBounds_toArray, List.set_cons_zero, List.set_cons_succ] at hK ⊢
      unfold opStep
      rw [if_pos (by rfl)]
      go_simp
      refine (copied_any _ tag wq (HT.out.on (H4.out.2.1.trans (hbw.mono H4.out.2.1.size)))).mono ?_
      rintro e wz ⟨v, rfl, hbz, hv⟩
      go_simp
      exact hK.out _ _ hbz (deepV (Nat.le_trans H4.out.2.2.1 hbw.size) hv) _ rfl
    case d_5 =>
      intro wq hbw st x4 h4 K hK
      simp only [Act.put, List.setIfInBounds_toArray, List.set_cons_zero, List.set_cons_succ] at hK ⊢
      unfold opStep
      rw [if_pos (by rfl)]
      obtain ⟨s, t, rfl, hb⟩ := h4
      go_simp
      exact hK.out _ _ (Below.refl _ _) ⟨s, t, rfl, hb⟩ _ rfl
    case d_6 =>
      intro wq hbw st x5 h5 K hK
      simp only [Act.put, List.setIfInBounds_toArray, List.set_cons_zero, List.set_cons_succ] at hK ⊢
      unfold opStep
      rw [if_pos (by rfl)]
      obtain ⟨s, t, rfl, hb⟩ := h5
      go_simp
      exact hK.out _ _ ((Below.refl _ _).alloc (Nat.le_refl _) _) (oneV (ds := ackD ⟨1, tag⟩) (.mk (readsD_i _ _ _) (.mk hb .empty)) rfl rfl (Nat.le_trans H4.out.2.2.1 hbw.size)) _ rfl
    case d_7 =>
      intro wq hbw st x6 h6 K hK
      simp only [Act.put, List.setIfInBounds_toArray, List.set_cons_zero, List.set_cons_succ] at hK ⊢
      unfold opStep
      rw [if_pos (by rfl)]
      obtain ⟨gd, rfl, hb⟩ := h6
      go_simp
      exact hK.out _ _ (Below.refl _ _) ⟨gd, rfl, hb⟩ _ rfl
    case d_8 =>
      intro wq hbw st x7 h7 K hK
      simp only [Act.put, List.setIfInBounds_toArray, List.set_cons_zero, List.set_cons_succ] at hK ⊢
      unfold opStep
      rw [if_pos (by rfl)]
      obtain ⟨gd, rfl, hb⟩ := h7
      go_simp
      exact hK.out _ _ (Below.refl _ _) ⟨gd, rfl, hb⟩ _ rfl
    case d_9 =>
      intro wq hbw st x8 h8 K hK
      simp only [Act.put, List.setIfInBounds_toArray, List.set_cons_zero, List.set_cons_succ] at hK ⊢
      unfold opStep
      rw [if_pos (by rfl)]
      obtain ⟨gd, rfl, hb⟩ := h8
      go_simp
      exact hK.out _ _ ((Below.refl _ _).alloc (Nat.le_refl _) _) (oneV (ds := proofD ⟨[], ⟨claimX tag delta root, [⟨1, tag⟩]⟩⟩) (.mk (nilD _ _ _) (cells_snoc (H4.out.2.2.2.2.2.2.on hbw) hb)) rfl rfl (Nat.le_trans H4.out.2.2.1 hbw.size)) _ rfl
    case d_10 =>
      intro wq hbw st  K hK
      simp only [Act.put, List.setIfInBounds_toArray, List.set_cons_zero, List.set_cons_succ] at hK ⊢
      unfold opStep
      rw [if_pos (by rfl)]
      go_simp
      exact hK.out _ _ ((Below.refl _ _).alloc (Nat.le_refl _) _) (oneV (ds := [sD [97]]) (.mk (readsD_s _ _ [97]) .empty) rfl rfl (Nat.le_trans H4.out.2.2.1 hbw.size)) _ rfl
    case d_11 =>
      intro wq hbw st  K hK
      simp only [Act.put, List.setIfInBounds_toArray, List.set_cons_zero, List.set_cons_succ] at hK ⊢
      unfold opStep
      rw [if_pos (by rfl)]
      go_simp
      exact hK.out _ _ (Below.refl _ _) rfl _ rfl
    case d_12 =>
      intro wq hbw st x4 h4 K hK
      simp only [Act.put, List.setIfInBounds_toArray, List.set_cons_zero, List.set_cons_succ] at hK ⊢
      unfold opStep
      rw [if_pos (by rfl)]
      go_simp
      refine (copied_any _ delta wq (HD.out.on (H4.out.2.1.trans (hbw.mono H4.out.2.1.size)))).mono ?_
      rintro e wz ⟨v, rfl, hbz, hv⟩
      go_simp
      exact hK.out _ _ hbz (deepV (Nat.le_trans H4.out.2.2.1 hbw.size) hv) _ rfl
    case d_13 =>
      intro wq hbw st  K hK
      simp only [Act.put, List.setIfInBounds_toArray, List.set_cons_zero, List.set_cons_succ] at hK ⊢
      unfold opStep
      rw [if_pos (by rfl)]
      go_simp
      exact hK.out _ _ (Below.refl _ _) rfl _ rfl
    case d_14 =>
      intro wq hbw st x12 h12 K hK
      simp only [Act.put, List.setIfInBounds_toArray, List.set_cons_zero, List.set_cons_succ] at hK ⊢
      unfold opStep
      rw [if_pos (by rfl)]
      go_simp
      refine (copied_any _ root wq (HR.out.on (H4.out.2.1.trans (hbw.mono H4.out.2.1.size)))).mono ?_
      rintro e wz ⟨v, rfl, hbz, hv⟩
      go_simp
      exact hK.out _ _ hbz (deepV (Nat.le_trans H4.out.2.2.1 hbw.size) hv) _ rfl
    case d_15 =>
      intro wq hbw st x14 h14 K hK
      simp only [Act.put, List.setIfInBounds_toArray, List.set_cons_zero, List.set_cons_succ] at hK ⊢
      unfold opStep
      rw [if_pos (by rfl)]
      obtain ⟨s, t, rfl, hb⟩ := h14
      go_simp
      exact hK.out _ _ ((Below.refl _ _).alloc (Nat.le_refl _) _) (oneV (ds := [bytesD root]) (.mk hb .empty) rfl rfl (Nat.le_trans H4.out.2.2.1 hbw.size)) _ rfl
    case d_16 =>
      intro wq hbw st x12 h12 x15 h15 K hK
      simp only [Act.put, List.setIfInBounds_toArray, List.set_cons_zero, List.set_cons_succ] at hK ⊢
      unfold opStep
      rw [if_pos (by rfl)]
      obtain ⟨s, t, rfl, hb⟩ := h12
      obtain ⟨g, rfl, hc⟩ := h15
      go_simp
      exact hK.out _ _ (Below.refl _ _) ⟨s, t, g, rfl, hb, hc⟩ _ rfl
    case d_17 =>
      intro wq hbw st x16 h16 K hK
      simp only [Act.put, List.setIfInBounds_toArray, List.set_cons_zero, List.set_cons_succ] at hK ⊢
      unfold opStep
      rw [if_pos (by rfl)]
      obtain ⟨s, t, g, rfl, hb, hc⟩ := h16
      go_simp
      exact hK.out _ _ ((Below.refl _ _).alloc (Nat.le_refl _) _) (oneV (ds := itemD ⟨[97], false, delta, [root]⟩) (.mk (readsD_s _ _ [97]) (.mk (.val _ rfl) (.mk hb (.mk hc .empty)))) rfl rfl (Nat.le_trans H4.out.2.2.1 hbw.size)) _ rfl
    case d_18 =>
      intro wq hbw st x1 h1 x9 h9 x10 h10 x17 h17 K hK
      simp only [Act.put, List.setIfInBounds_toArray, List.set_cons_zero, List.set_cons_succ] at hK ⊢
      unfold opStep
      rw [if_pos (by rfl)]
      obtain ⟨ga, rfl, ha⟩ := h1
      obtain ⟨gb, rfl, hb⟩ := h9
      obtain ⟨gc, rfl, hc⟩ := h10
      obtain ⟨gd, rfl, hd⟩ := h17
      go_simp
      exact hK.out _ _ (Below.refl _ _) ⟨_, rfl, .mk (readsD_i _ _ _) (.mk (readsD_i _ _ _) (.mk (readsD_i _ _ _) (.mk (readsD_i _ _ _) (.mk (readsD_i _ _ _) (.mk (readsD_i _ _ _) (.mk (nilD _ _ _) (.mk (nilD _ _ _) (.mk ha (.mk (nilD _ _ _) (.mk hb (.mk (nilD _ _ _) (.mk hc (.mk (readsD_i _ _ _) (.mk hd .empty))))))))))))))⟩ _ rfl
    case d_fin =>
      intro wq hbw
      intro x1 h1 x4 h4 x5 h5 x6 h6 x7 h7 x8 h8 x9 h9 x10 h10 x12 h12 x14 h14 x15 h15 x16 h16 x17 h17 x18 h18
      try simp only [FinAll]
      simp only [List.drop_succ_cons, List.drop_zero]
      simp only [Act.put, List.setIfInBounds_toArray, List.set_cons_zero, List.set_cons_succ]
      obtain ⟨cs, rfl, hcs⟩ := h18
      have HQ : Hid (Blk wq W.heap.size 39 zeroC.toArray ∧ Below W.heap.size W wq) := Lib.hid ⟨H4.out.1.on hbw, H4.out.2.1.trans (hbw.mono H4.out.2.1.size)⟩
      have HC := Lib.hid hcs
      have HLEN := Lib.hid (msg_len hcs)
      have HONE := Lib.hid (CellsD.all hcs)
      clear hcs hbw H4
      refine wpList_store_msg rfl (.tmp 6) (.tmp 43) rfl W.heap.size zeroC.toArray cs rfl rfl HQ.out.1 rfl HLEN.out HONE.out ?_
      intro w5 hB5 hk5
      have HL := Lib.hid (load_msg hB5 HLEN.out)
      have HG : Hid (Below W.heap.size W w5 ∧ CellsD (fun k => W.heap.size ≤ k) w5 cs (msgD (msgX tag delta root))) := Lib.hid ⟨HQ.out.2.trans (hk5.below HQ.out.2.size fun k hk e => by omega), HC.out.1, fun i u d e1 e2 => ((HC.out.2 i u d e1 e2).kept hk5 fun k hk e => by omega).mono fun k hk _ => by omega⟩
      clear hB5 hk5
      go_wp2
      refine bodyPost_ret (results_cell rfl rfl HL.out) rfl (HF.out _ _ ⟨cs, rfl, HG.out.1, HG.out.2⟩)
end Go.Proofs.Ytmcdmcnbnnfhnaa
