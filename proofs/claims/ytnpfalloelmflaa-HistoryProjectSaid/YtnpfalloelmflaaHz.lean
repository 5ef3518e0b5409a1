/-
  Chapter 54: awake.
-/
import Derived.Test.YtnpfalloelmflaaHy
import Derived.Test.YtnpfalloelmflaaHx
import Derived.ChangeKeysEq
namespace Go.Proofs.Ytnpfalloelmflaa
open Go.RowKit

theorem ex_resp1 : respB (exL 4 2) [1, 0, 2] = true := by
  refine resp_ok (by decide +kernel) rfl fun a b ha hb hab => ?_
  have ha' : a < 3 := ha
  have hb' : b < 3 := hb
  have : (a = 0 ∧ b = 1) ∨ (a = 0 ∧ b = 2) ∨ (a = 1 ∧ b = 2) := by omega
  rcases this with ⟨rfl, rfl⟩ | ⟨rfl, rfl⟩ | ⟨rfl, rfl⟩
  · change precAt (exL 4 2) 0 1 = false; decide +kernel
  · change precAt (exL 4 2) 2 1 = false; decide +kernel
  · change precAt (exL 4 2) 2 0 = false; decide +kernel
theorem ex_resp2 : respB (exL 4 2) [2, 0, 1] = false :=
  resp_bad fun h => absurd (h 0 2 (by decide) (by decide) (by decide)) (by decide +kernel)
theorem chk_as {f a w} {h : List Opn} {k : Nat} {c : Int} (e : chkL h = (k, c)) (hc : Calls Try.prog f a w (ChkMade w h)) : Calls Try.prog f a w fun e w' => e = .returned (.tuple #[.int .i64 (k : Nat), .int .i64 c]) ∧ Below w.heap.size w w' := by
  unfold ChkMade at hc; rw [e] at hc; exact hc
theorem bool_as {f a w} {x y : Bool} (e : x = y) (h : Calls Try.prog f a w (BoolMade w x)) : Calls Try.prog f a w (BoolMade w y) := e ▸ h
theorem ops_as {f a w} {L M : List Opn} (e : L = M) (h : Calls Try.prog f a w (OpsMade w L)) : Calls Try.prog f a w (OpsMade w M) := e ▸ h
theorem ord_as {f a w} {L M : List (Nat × Nat)} (e : L = M) (h : Calls Try.prog f a w (OrderMade w L)) : Calls Try.prog f a w (OrderMade w M) := e ▸ h
theorem comp_as {f a w} {h M : List Opn} {last c : Int} (e : compErr h last = c) (e2 : (if c = 0 then compL (seenL h) last h else []) = M) (hc : Calls Try.prog f a w (CompMade w h last)) :
    Calls Try.prog f a w fun e w' => ∃ v, e = .returned (.tuple #[v, .int .i64 c]) ∧ ReadsO w' v M ∧ (∀ k, v.ownBlock = some k → w.heap.size ≤ k) ∧ Below w.heap.size w w' := by
  subst e2; subst e; exact hc

theorem Try.infoInt0 : (Try.prog.info? 3).map (fun i => (i.zero, i.size, i.bytes)) = some (some (.int .i64 0), 1, 8) := by kernel_rfl
theorem run_eq_pair (w : World) (a b c d : Int) : (Op.equalIn 10000 42 (.agg #[.int .i64 a, .int .i64 b]) (.agg #[.int .i64 c, .int .i64 d])).run Try.prog w = .ok (a == c && b == d) w := by
  obtain ⟨i0, hinf, hz0, hz1, hz2⟩ := info_parts Try.infoInt0
  have hc : Try.prog.cellsOf 3 = 1 := by kernel_rfl
  rw [show (10000 : Nat) = 9999 + 1 from rfl, run_equalIn_array (n := 2) (e := 3) w 9999 _ _ Try.underlying42 hinf, hc]
  have hk : Try.prog.plainKey 3 = true := by kernel_rfl
  have he : ∀ x y : Int, (Op.equalIn 9999 3 (.int .i64 x) (.int .i64 y)).run Try.prog w = .ok (x == y) w := fun x y => run_equalIn_int (w := w) 9998 _ _ _ x y Try.underlying3
  have p0 : (part 3 #[.int .i64 a, .int .i64 b] (0 * 1)).run Try.prog w = .ok (.int .i64 a) w := run_part_plain (w := w) hk rfl
  have p1 : (part 3 #[.int .i64 a, .int .i64 b] (1 * 1)).run Try.prog w = .ok (.int .i64 b) w := run_part_plain (w := w) hk rfl
  have q0 : (part 3 #[.int .i64 c, .int .i64 d] (0 * 1)).run Try.prog w = .ok (.int .i64 c) w := run_part_plain (w := w) hk rfl
  have q1 : (part 3 #[.int .i64 c, .int .i64 d] (1 * 1)).run Try.prog w = .ok (.int .i64 d) w := run_part_plain (w := w) hk rfl
  have hr : List.range 2 = [0, 1] := rfl
  rw [hr]
  simp only [Op.eqItems, Sem.run_bind, p0, q0, Result.andThen_ok, he]
  cases hx : (a == c)
  · simp
  · simp only [Bool.not_true, Bool.false_eq_true, if_false, Sem.run_bind, p1, q1, Result.andThen_ok, he, Bool.true_and]
    cases hy : (b == d) <;> simp
attribute [local go_sem] run_eq_pair
theorem ord_cells {w : World} {v : Value} {i j : Nat} (h : w.ownsRow 0 42 2 v [(i, j)].length (prC [(i, j)])) :
    ∃ g cap, v = .slice (some ⟨g, 0, none⟩) 1 cap ∧ g < w.heap.size ∧ w.cell? ⟨g, 0, none⟩ = some (.int .i64 (i : Nat)) ∧ w.cell? ⟨g, 1, none⟩ = some (.int .i64 (j : Nat)) := by
  rcases h.2 with ⟨_, h0⟩ | ⟨g, cap, cur, rfl, _, hg, _, _, hs, ht⟩
  · simp at h0
  · have hB : Blk w g 42 cur := hg
    have ht' : cur.toList.take 2 = [.int .i64 (i : Nat), .int .i64 (j : Nat)] := ht
    have hc : ∀ k, k < 2 → cur[k]? = ([.int .i64 (i : Nat), .int .i64 (j : Nat)] : List Value)[k]? := fun k hk => by
      rw [← ht', List.getElem?_take_of_lt hk, Array.getElem?_toList]
    exact ⟨g, cap, rfl, hB.lt, (hB.cell 0).trans (hc 0 (by omega)), (hB.cell 1).trans (hc 1 (by omega))⟩

set_option maxRecDepth 100000 in
set_option maxHeartbeats 8000000 in
theorem awake_any (W : World) : Calls Try.prog 12 #[] W (BoolMade W true) := by
  go_enter Try.func12, Try.ntmps12
  go_wp2_with fail
  refine (example_any _).mono ?_
  rintro e w1 ⟨g, z1, z2, rfl, hg, hx, hb1⟩
  have HX := Lib.hid hx
  have KW := Lib.hid hb1
  clear hg hx hb1
  go_wp2_with fail
  refine (chk_as ex_chk (check_any _ (exL 4 2) _ HX.out.reads (ex_small _ _))).mono ?_
  rintro e w2 ⟨rfl, hb⟩
  replace HX := Lib.hid (HX.out.on hb)
  replace KW := Lib.hid (KW.out.trans (hb.mono KW.out.size))
  clear hb
  go_wp2_with fail
  refine (ord_as ex_ord (order_any _ (exL 4 2) _ HX.out.reads (by decide))).mono ?_
  rintro e w3 ⟨v3, rfl, hrow, hb⟩
  replace HX := Lib.hid (HX.out.on hb)
  replace KW := Lib.hid (KW.out.trans (hb.mono KW.out.size))
  have HO := Lib.hid hrow
  clear hb hrow
  go_wp2_with fail
  refine (ops_as ex_cut (cut_any _ (exL 4 2) 2 _ HX.out.reads (ex_small _ _))).mono ?_
  rintro e w4 ⟨v4, rfl, hr4, hb⟩
  replace HX := Lib.hid (HX.out.on hb)
  replace KW := Lib.hid (KW.out.trans (hb.mono KW.out.size))
  have K3 := Lib.hid hb
  have H4 := Lib.hid hr4
  clear hb hr4
  go_wp2_with fail
  refine (example_any _).mono ?_
  rintro e w5 ⟨gp, y1, y2, rfl, hg, hx, hb⟩
  have HG := Lib.hid hg
  have K4 := Lib.hid hb
  have c0 := hx.1.cell 3
  have f0 := hx.1.frozen 3
  have s0 := hx.1.lt
  have HP := Lib.hid hx
  clear hg hb hx
  go_wp2_with fail
  obtain ⟨w6, hw6⟩ : ∃ x, x = w5.setCell ⟨gp, 3, none⟩ (.int .i64 (-1)) := ⟨_, rfl⟩
  have HP6 : Hid (ExB w6 gp y1 y2 (-1) 2) := Lib.hid (by rw [hw6]; exact HP.out.set0 (-1))
  have K6 : Hid (Below w4.heap.size w4 w6) := Lib.hid (by rw [hw6]; exact K4.out.setCell HG.out _)
  rw [← hw6]
  clear hw6 c0 f0 s0 HP K4
  refine (comp_as ex_comp9 ((if_pos rfl).trans ex_compL) (complete_any _ (exL (-1) 2) 9 _ HP6.out.reads (ex_small _ _))).mono ?_
  rintro e w7 ⟨v7, rfl, hr7, hk7, hb⟩
  obtain ⟨b7, o7, cap7, va7, vz7, hv7, _, _, hc7, _, _⟩ := hr7.at_ (k := 0) (by decide)
  replace hv7 : v7 = .slice (some ⟨b7, o7, none⟩) 3 cap7 := hv7
  subst hv7
  have hl7 : w6.heap.size ≤ b7 := hk7 b7 rfl
  have hg7 : gp < b7 := Nat.lt_of_lt_of_le HP6.out.1.lt hl7
  have C7 := Lib.hid hc7
  have G7 := Lib.hid hg7
  have K7 := Lib.hid hb
  have HP7 := Lib.hid (HP6.out.on hb)
  clear hr7 hk7 hb hc7 hl7 hg7
  go_wp2_with fail
  refine (comp_as ex_comp6 (if_neg (by decide)) (complete_any _ (exL (-1) 2) 6 _ HP7.out.reads (ex_small _ _))).mono ?_
  rintro e w8 ⟨v8, rfl, -, -, hb⟩
  have HP8 := Lib.hid (HP7.out.on hb)
  have C8 := Lib.hid (C7.out _ hb).2.2.2.1
  have K8 := Lib.hid (K6.out.trans ((K7.out.trans (hb.mono K7.out.size)).mono K6.out.size))
  have c0 := HP8.out.1.cell 9
  have f0 := HP8.out.1.frozen 9
  have s0 := HP8.out.1.lt
  clear hb C7 K7 HP7 HP6 K6
  go_wp2_with fail
  obtain ⟨w9, hw9⟩ : ∃ x, x = w8.setCell ⟨gp, 9, none⟩ (.int .i64 3) := ⟨_, rfl⟩
  have HP9 : Hid (ExB w9 gp y1 y2 (-1) 3) := Lib.hid (by rw [hw9]; exact HP8.out.set1 3)
  have K9 : Hid (Below w4.heap.size w4 w9) := Lib.hid (by rw [hw9]; exact K8.out.setCell HG.out _)
  have C9 : Hid (w9.cell? ⟨b7, o7 + 3, none⟩ = some (.int .i64 9)) := Lib.hid (by
    have h1 := C8.out
    simp only [Nat.zero_mul, Nat.add_zero] at h1
    rw [hw9, World.cell?_setCell_far _ _ _ _ (by have := G7.out; simp; omega)]
    exact h1)
  rw [← hw9]
  clear hw9 c0 f0 s0 HP8 K8 C8
  refine (chk_as ex_chk2 (check_any _ (exL (-1) 3) _ HP9.out.reads (ex_small _ _))).mono ?_
  rintro e w10 ⟨rfl, hb⟩
  obtain ⟨b3, n3, hv3, h3lt, d0, d1⟩ := ord_cells HO.out
  subst hv3
  obtain ⟨b4, o4, n4, va4, vz4, hv4, _, _, hc4, _, _⟩ := H4.out.at_ (k := 0) (by decide)
  replace hv4 : v4 = .slice (some ⟨b4, o4, none⟩) 2 n4 := hv4
  subst hv4
  have KA := Lib.hid (K9.out.trans (hb.mono K9.out.size))
  have K3A := Lib.hid (K3.out.trans (KA.out.mono K3.out.size))
  have q0 := (K3A.out.cell (p := ⟨b3, 0, none⟩) h3lt).trans d0
  have q1 := (K3A.out.cell (p := ⟨b3, 1, none⟩) h3lt).trans d1
  have C10 : Hid (w10.cell? ⟨b7, o7 + 3, none⟩ = some (.int .i64 9)) := Lib.hid ((hb.cell (p := ⟨b7, o7 + 3, none⟩) (World.block_lt_of_cell? w9 _ C9.out)).trans C9.out)
  have D10 := Lib.hid (hc4 _ KA.out).2.2.2.1
  have HX10 := Lib.hid (HX.out.on KA.out)
  replace KW := Lib.hid (KW.out.trans (KA.out.mono KW.out.size))
  clear hb hc4 d0 d1 HX HP9 HO H4 K3 K3A C9 K9 KA
  go_wp2_with fail
  have hB11 := (Below.refl w10.heap.size w10).alloc (Nat.le_refl _) (.cells #[.int .i64 1, .int .i64 0, .int .i64 2] 3)
  refine (bool_as ex_leg1 (legal_any _ _ (exL 4 2) [1, 0, 2] _ (HX10.out.on hB11).reads (reads_litI (xs := [1, 0, 2]) (Blk.new w10 3 #[.int .i64 1, .int .i64 0, .int .i64 2]) rfl (by simp)) (ex_small _ _) (by simp))).mono ?_
  rintro e w11 ⟨rfl, hb⟩
  have hc := hB11.trans (hb.mono hB11.size)
  have HX11 := Lib.hid (HX10.out.on hc)
  have C11 := Lib.hid ((hc.cell (p := ⟨b7, o7 + 3, none⟩) (World.block_lt_of_cell? _ _ C10.out)).trans C10.out)
  have D11 := Lib.hid ((hc.cell (p := ⟨b4, o4 + 0 * 6 + 3, none⟩) (World.block_lt_of_cell? _ _ D10.out)).trans D10.out)
  replace KW := Lib.hid (KW.out.trans (hc.mono KW.out.size))
  clear hB11 hb hc HX10 C10 D10
  go_wp2_with fail
  have hB12 := (Below.refl w11.heap.size w11).alloc (Nat.le_refl _) (.cells #[.int .i64 1, .int .i64 0, .int .i64 2] 3)
  refine (bool_as ex_resp1 (respects_any _ _ (exL 4 2) [1, 0, 2] _ (HX11.out.on hB12).reads (reads_litI (xs := [1, 0, 2]) (Blk.new w11 3 #[.int .i64 1, .int .i64 0, .int .i64 2]) rfl (by simp)) (by decide) (by simp))).mono ?_
  rintro e w12 ⟨rfl, hb⟩
  have hc := hB12.trans (hb.mono hB12.size)
  have HX12 := Lib.hid (HX11.out.on hc)
  have C12 := Lib.hid ((hc.cell (p := ⟨b7, o7 + 3, none⟩) (World.block_lt_of_cell? _ _ C11.out)).trans C11.out)
  have D12 := Lib.hid ((hc.cell (p := ⟨b4, o4 + 0 * 6 + 3, none⟩) (World.block_lt_of_cell? _ _ D11.out)).trans D11.out)
  replace KW := Lib.hid (KW.out.trans (hc.mono KW.out.size))
  clear hB12 hb hc HX11 C11 D11
  go_wp2_with fail
  have hB13 := (Below.refl w12.heap.size w12).alloc (Nat.le_refl _) (.cells #[.int .i64 0, .int .i64 1, .int .i64 2] 3)
  refine (bool_as ex_leg2 (legal_any _ _ (exL 4 2) [0, 1, 2] _ (HX12.out.on hB13).reads (reads_litI (xs := [0, 1, 2]) (Blk.new w12 3 #[.int .i64 0, .int .i64 1, .int .i64 2]) rfl (by simp)) (ex_small _ _) (by simp))).mono ?_
  rintro e w13 ⟨rfl, hb⟩
  have hc := hB13.trans (hb.mono hB13.size)
  have HX13 := Lib.hid (HX12.out.on hc)
  have C13 := Lib.hid ((hc.cell (p := ⟨b7, o7 + 3, none⟩) (World.block_lt_of_cell? _ _ C12.out)).trans C12.out)
  have D13 := Lib.hid ((hc.cell (p := ⟨b4, o4 + 0 * 6 + 3, none⟩) (World.block_lt_of_cell? _ _ D12.out)).trans D12.out)
  replace KW := Lib.hid (KW.out.trans (hc.mono KW.out.size))
  clear hB13 hb hc HX12 C12 D12
  go_wp2_with fail
  have hB14 := (Below.refl w13.heap.size w13).alloc (Nat.le_refl _) (.cells #[.int .i64 2, .int .i64 0, .int .i64 1] 3)
  refine (bool_as ex_resp2 (respects_any _ _ (exL 4 2) [2, 0, 1] _ (HX13.out.on hB14).reads (reads_litI (xs := [2, 0, 1]) (Blk.new w13 3 #[.int .i64 2, .int .i64 0, .int .i64 1]) rfl (by simp)) (by decide) (by simp))).mono ?_
  rintro e w14 ⟨rfl, hb⟩
  have hc := hB14.trans (hb.mono hB14.size)
  have HX14 := Lib.hid (HX13.out.on hc)
  have C14 := Lib.hid ((hc.cell (p := ⟨b7, o7 + 3, none⟩) (World.block_lt_of_cell? _ _ C13.out)).trans C13.out)
  have D14 := Lib.hid ((hc.cell (p := ⟨b4, o4 + 0 * 6 + 3, none⟩) (World.block_lt_of_cell? _ _ D13.out)).trans D13.out)
  replace KW := Lib.hid (KW.out.trans (hc.mono KW.out.size))
  clear hB14 hb hc HX13 C13 D13
  have d14 := D14.out
  have c14 := C14.out
  simp only [Nat.zero_mul, Nat.add_zero] at d14
  replace d14 : w14.cell? ⟨b4, o4 + 3, none⟩ = some (.int .i64 (-1)) := d14
  clear D14 C14 HX14
  go_wp2
  go_ret
  exact ⟨rfl, KW.out⟩
end Go.Proofs.Ytnpfalloelmflaa
