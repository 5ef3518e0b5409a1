/-
  NetMemory: messages do not change under way. No conditions: the statement is proved for every input.
-/
import Derived.Test.YtmcdmcnbnnfhnaaVh
import Derived.Test.YtmcdmcnbnnfhnaaVj
import Derived.Test.YtmcdmcnbnnfhnaaVk
import Derived.Test.YtmcdmcnbnnfhnaaSj
namespace Go.Proofs.Ytmcdmcnbnnfhnaa.netMemory
open Go.ChangeShapes Go.WideShapes Go.ChangeAt Go.RowKit Go.Proofs.Ytmcdmcnbnnfhnaa
set_option maxRecDepth 100000

def s1 (X : MsgM) : NetS := putS { newS 5 with sent := 0 + 1 } X
def s2 (X : MsgM) : NetS := putS { s1 X with twice := 0 + 1 } X
def s3 (X : MsgM) : NetS := { s2 X with cnt := (s2 X).cnt - 1, ms := updM (s2 X).ms 1 none, taken := (s2 X).taken + 1 }
def s4 (X : MsgM) : NetS := { s3 X with cnt := (s3 X).cnt - 1, ms := updM (s3 X).ms 2 none, taken := (s3 X).taken + 1 }
theorem st1 (X : MsgM) (h : (procB X.frm && procB X.to) = true) : sendR (newS 5) X = (1, 0, s1 X) := by
  unfold sendR
  rw [if_pos h, if_neg (by decide)]
  rfl
theorem st2 (X : MsgM) : dupR (s1 X) 1 = (2, 0, s2 X) := by
  have h : (s1 X).ms 1 = some X := rfl
  unfold dupR
  rw [h]
  simp only
  rw [if_neg (show ¬ (s1 X).limit ≤ ((s1 X).cnt : Int) from (show ¬ (5 : Int) ≤ ((1 : Nat) : Int) by decide))]
  rfl
theorem st3 (X : MsgM) (hc : connB none X.frm X.to = true) : delR (s2 X) 1 = (X, 0, s3 X) := by
  have h : (s2 X).ms 1 = some X := rfl
  unfold delR
  rw [h]
  simp only
  rw [if_pos (show connB (s2 X).grp X.frm X.to = true from hc)]
  rfl
theorem st4 (X : MsgM) (hc : connB none X.frm X.to = true) : delR (s3 X) 2 = (X, 0, s4 X) := by
  have h : (s3 X).ms 2 = some X := rfl
  unfold delR
  rw [h]
  simp only
  rw [if_pos (show connB (s3 X).grp X.frm X.to = true from hc)]
  rfl
set_option maxHeartbeats 16000000 in
theorem walk (t1 t2 t3 : Option Addr) (tag delta root : Str) (c1 c2 c3 : Nat) (W : World) (h1 : tag.length ≤ 1048576 → ReadsD (fun _ => True) W (.slice t1 tag.length c1) (bytesD tag)) (h2 : delta.length ≤ 1048576 → ReadsD (fun _ => True) W (.slice t2 delta.length c2) (bytesD delta)) (h3 : root.length ≤ 1048576 → ReadsD (fun _ => True) W (.slice t3 root.length c3) (bytesD root))
    (m1 : tag.length ≤ maxLen) (m2 : delta.length ≤ maxLen) (m3 : root.length ≤ maxLen) : Calls Try.prog 3 #[.slice t1 tag.length c1, .slice t2 delta.length c2, .slice t3 root.length c3] W (BoolMade W true) := by
  unfold maxLen at m1 m2 m3
  have HF : Hid (∀ e w', e = .returned (.bool true) ∧ Below W.heap.size W w' → BoolMade W true e w') := Lib.hid fun _ _ h => h
  generalize hQ : BoolMade W true = Q at *
  clear hQ
  have HAW := Lib.hid (awake_any W)
  by_cases n1 : tag.length ≤ 2000
  case neg =>
    have e1 : decide ((2000 : Int) < (tag.length : Int)) = true := by simp; omega
    clear h1 h2 h3
    go_enter Try.func3, Try.ntmps3
    go_wp2_with fail
    refine HAW.out.mono ?_
    rintro e w1 ⟨rfl, hb1⟩
    have HB1 := Lib.hid hb1
    clear hb1 HAW
    go_wp2
    exact HF.out _ _ ⟨rfl, HB1.out⟩
  have e1 : decide ((2000 : Int) < (tag.length : Int)) = false := by simp; omega
  by_cases n2 : delta.length ≤ 2000
  case neg =>
    have e2 : decide ((2000 : Int) < (delta.length : Int)) = true := by simp; omega
    clear h1 h2 h3
    go_enter Try.func3, Try.ntmps3
    go_wp2_with fail
    refine HAW.out.mono ?_
    rintro e w1 ⟨rfl, hb1⟩
    have HB1 := Lib.hid hb1
    clear hb1 HAW
    go_wp2
    exact HF.out _ _ ⟨rfl, HB1.out⟩
  have e2 : decide ((2000 : Int) < (delta.length : Int)) = false := by simp; omega
  by_cases n3 : root.length ≤ 2000
  case neg =>
    have e3 : decide ((2000 : Int) < (root.length : Int)) = true := by simp; omega
    clear h1 h2 h3
    go_enter Try.func3, Try.ntmps3
    go_wp2_with fail
    refine HAW.out.mono ?_
    rintro e w1 ⟨rfl, hb1⟩
    have HB1 := Lib.hid hb1
    clear hb1 HAW
    go_wp2
    exact HF.out _ _ ⟨rfl, HB1.out⟩
  have e3 : decide ((2000 : Int) < (root.length : Int)) = false := by simp; omega
  have HT := Lib.hid (h1 (by omega))
  have HD := Lib.hid (h2 (by omega))
  have HR := Lib.hid (h3 (by omega))
  have HX : Hid (∃ X : MsgM, X = msgX tag delta root) := Lib.hid ⟨_, rfl⟩
  obtain ⟨X, hX⟩ := HX.out
  have HXE := Lib.hid hX
  have HP1 : Hid ((procB X.frm && procB X.to) = true) := Lib.hid (by rw [hX]; rfl)
  have HP2 : Hid (connB none X.frm X.to = true) := Lib.hid (by rw [hX]; rfl)
  have HMS : Hid (∀ w, Below W.heap.size W w → Calls Try.prog 10 #[.slice t1 tag.length c1, .slice t2 delta.length c2, .slice t3 root.length c3] w (AggMade w (msgD X))) := Lib.hid fun w hb => by rw [hX]; exact lawmsg_any _ _ _ tag delta root w (HT.out.on hb) (HD.out.on hb) (HR.out.on hb)
  clear h1 h2 h3 n1 n2 n3 hX HX HT HD HR HXE
  go_enter Try.func3, Try.ntmps3
  go_wp2_with fail
  refine HAW.out.mono ?_
  rintro e w1 ⟨rfl, hb1⟩
  have HB1 := Lib.hid hb1
  clear hb1 HAW
  go_wp2_with fail
  refine (new_yes 5 w1 (by unfold okL; omega)).mono ?_
  rintro e w2 ⟨n, b, rfl, hn, hb, hnl, hbl⟩
  have HN2 := Lib.hid hn
  have HB2 := Lib.hid (HB1.out.trans (hb.mono HB1.out.size))
  have HLE : Hid (W.heap.size ≤ n ∧ W.heap.size ≤ b ∧ n < w2.heap.size ∧ b < w2.heap.size) := Lib.hid ⟨Nat.le_trans HB1.out.size hnl, Nat.le_trans HB1.out.size hbl, hn.box.lt, hn.blt⟩
  clear hn hb hnl hbl HB1 e1 e2 e3
  have HCL := Lib.hid (HMS.out w2 HB2.out)
  go_wp2_with fail
  refine HCL.out.mono ?_
  rintro e w3 ⟨cm, rfl, hb3, hc3⟩
  have HC3 := Lib.hid (show CellsD (fun k => w2.heap.size ≤ k ∧ k < w3.heap.size) w3 cm (msgD X) from ⟨hc3.1, fun i u d e1 e2 => (hc3.2 i u d e1 e2).lt⟩)
  have HB3 := Lib.hid hb3
  have HLEN := Lib.hid (msg_len hc3)
  have HONE := Lib.hid (CellsD.all hc3)
  have HS : Hid (Blk (w3.alloc (.cells zeroC.toArray 39)) w3.heap.size 39 zeroC.toArray) := Lib.hid (Blk.new w3 _ _)
  clear hb3 hc3 HCL
  go_upto_region 9 with ((refine wpList_store_msg rfl (.tmp 9) (.tmp 48) rfl w3.heap.size zeroC.toArray cm rfl rfl HS.out rfl HLEN.out HONE.out ?_; intro w4 hB4 hk4))
  have H34 : Hid (Below w3.heap.size w3 w4) := Lib.hid (((Kept.of ((Below.refl w3.heap.size w3).alloc (Nat.le_refl _) (.cells zeroC.toArray 39)) : Kept (fun b => b = w3.heap.size) w3 _).trans hk4).below (Nat.le_refl _) fun k hk e => by omega)
  have HG9 := Lib.hid hB4
  clear hB4 hk4 HS
  have HB4 : Hid (Below W.heap.size W w4 ∧ Below w2.heap.size w2 w4 ∧ w2.heap.size ≤ w3.heap.size ∧ w3.heap.size < w4.heap.size) := Lib.hid ⟨(HB2.out.trans (HB3.out.mono HB2.out.size)).trans (H34.out.mono (Nat.le_trans HB2.out.size HB3.out.size)), HB3.out.trans (H34.out.mono HB3.out.size), HB3.out.size, HG9.out.lt⟩
  have HC4 := Lib.hid (HC3.out.on H34.out)
  have HN4 : Hid (NetAt (fun k => k = n ∨ k = b ∨ w4.heap.size ≤ k) n b (.map none) (newS 5) w4) := Lib.hid ((HN2.out.on HB4.out.2.1).mono fun k hk _ => by rcases hk with rfl | rfl; exact .inl rfl; exact .inr (.inl rfl))
  clear HC3 HB3 H34 HN2
  have HCL := Lib.hid (send_any X cm HN4.out (HC4.out.mono fun k hk _ => by have := HLE.out; omega) (fun k hk => .inr (.inr hk)) (by decide) (by decide) (by decide) (by decide) (by decide) rfl)
  rw [st1 X HP1.out] at HCL
  go_wp2_with (refine wpList_load_msg rfl (.tmp 9) rfl w3.heap.size cm rfl HG9.out HLEN.out ?_)
  refine HCL.out.mono ?_
  rintro e w5 ⟨rfl, hn5, hk5⟩
  have HN5 := Lib.hid hn5
  have HG5 : Hid (Blk w5 w3.heap.size 39 cm.toArray ∧ CellsD (fun k => w2.heap.size ≤ k ∧ k < w3.heap.size) w5 cm (msgD X) ∧ Below W.heap.size W w5 ∧ w4.heap.size ≤ w5.heap.size) := Lib.hid (by
    have h1 := HLE.out
    have h2 := HB4.out.2.2
    exact ⟨hk5.blk HG9.out (by show ¬ (w3.heap.size = n ∨ w3.heap.size = b); omega), ⟨HC4.out.1, fun i u d e1 e2 => (HC4.out.2 i u d e1 e2).kept hk5 fun k hk e => by omega⟩, HB4.out.1.trans (hk5.below HB4.out.1.size fun k hk e => by omega), hk5.size⟩)
  clear hn5 hk5 HCL HN4 HC4 HG9
  have HCL := Lib.hid (spoil_any X cm w5 HG5.out.2.1)
  go_wp2_with (refine wpList_load_msg rfl (.tmp 9) rfl w3.heap.size cm rfl HG5.out.1 HLEN.out ?_)
  refine HCL.out.mono ?_
  rintro e w6 ⟨rfl, hk6⟩
  have HN6 : Hid (NetAt (fun k => (k = n ∨ k = b ∨ w4.heap.size ≤ k) ∧ k < w6.heap.size) n b (.map none) (s1 X) w6) := Lib.hid ((HN5.out.kept hk6.kept fun k hk e => by have h1 := HLE.out; have h2 := HB4.out.2.2; omega).mono fun k hk hlt => ⟨hk, hlt⟩)
  have HB6 : Hid (Below W.heap.size W w6) := Lib.hid (HG5.out.2.2.1.trans (hk6.kept.below HG5.out.2.2.1.size fun k hk e => by have h1 := HLE.out; omega))
  clear hk6 HCL HN5 HG5 HB4 HLEN HONE HB2
  have HCL := Lib.hid (peek_any 1 (by unfold I64; omega) HN6.out)
  rw [show peekR (s1 X) 1 = (X, 0) from rfl] at HCL
  go_wp2_with fail
  refine HCL.out.mono ?_
  rintro e w7 ⟨cp, rfl, hb7, hc7⟩
  have HC7 := Lib.hid (show CellsD (fun k => w6.heap.size ≤ k ∧ k < w7.heap.size) w7 cp (msgD X) from ⟨hc7.1, fun i u d e1 e2 => (hc7.2 i u d e1 e2).lt⟩)
  have HB7 := Lib.hid hb7
  have HLEN := Lib.hid (msg_len hc7)
  have HONE := Lib.hid (CellsD.all hc7)
  have HS : Hid (Blk (w7.alloc (.cells zeroC.toArray 39)) w7.heap.size 39 zeroC.toArray) := Lib.hid (Blk.new w7 _ _)
  clear hb7 hc7 HCL
  go_upto_region 14 with ((refine wpList_store_msg rfl (.tmp 12) (.tmp 62) rfl w7.heap.size zeroC.toArray cp rfl rfl HS.out rfl HLEN.out HONE.out ?_; intro w8 hB8 hk8))
  have H78 : Hid (Below w7.heap.size w7 w8) := Lib.hid (((Kept.of ((Below.refl w7.heap.size w7).alloc (Nat.le_refl _) (.cells zeroC.toArray 39)) : Kept (fun b => b = w7.heap.size) w7 _).trans hk8).below (Nat.le_refl _) fun k hk e => by omega)
  have HG : Hid (Blk w8 w7.heap.size 39 cp.toArray ∧ CellsD (fun k => w6.heap.size ≤ k ∧ k < w7.heap.size) w8 cp (msgD X) ∧ NetAt (fun k => (k = n ∨ k = b ∨ w4.heap.size ≤ k) ∧ k < w6.heap.size) n b (.map none) (s1 X) w8 ∧ Below W.heap.size W w8) := Lib.hid ⟨hB8, HC7.out.on H78.out, (HN6.out.on HB7.out).on H78.out, (HB6.out.trans (HB7.out.mono HB6.out.size)).trans (H78.out.mono (Nat.le_trans HB6.out.size HB7.out.size))⟩
  have HSZ67 : Hid (w6.heap.size ≤ w7.heap.size) := Lib.hid HB7.out.size
  clear hB8 hk8 HS H78 HC7 HB7 HN6
  refine region_left [.is (.int .i64 0), .is (.bool false), .is (.bool false), .is (.agg cp.toArray), .is (.slice t1 tag.length c1), .is (.slice t2 delta.length c2), .is (.slice t3 root.length c3), (.has (fun x w => ∃ cs : List Value, x = .agg cs.toArray ∧ CellsD (fun _ => True) w cs (msgD X)) fun x w w' hb ⟨cs, e, h⟩ => ⟨cs, e, h.on hb⟩), .is (.bool true), .is (.bool false), .is (.bool false)] (by kernel_rfl) rfl (by kernel_rfl) (by kernel_rfl) (.cons ?a_0 (.cons ?a_1 (.cons ?a_2 (.cons ?a_3 (.cons ?a_4 (.cons ?a_5 (.cons ?a_6 (.cons ?a_7 (.cons ?a_8 (.cons ?a_9 (.cons ?a_10 .nil))))))))))) ?a_fin
  case a_0 =>
    intro wq hbw st  K hK
    simp only [Act.put, List.setIfInBounds_toArray, List.set_cons_zero, List.set_cons_succ] at hK ⊢
    unfold opStep
    rw [if_pos (by rfl)]
    go_simp
    exact hK.out _ _ (Below.refl _ _) rfl _ rfl
  case a_1 =>
    intro wq hbw st  K hK
    simp only [Act.put, List.setIfInBounds_toArray, List.set_cons_zero, List.set_cons_succ] at hK ⊢
    unfold opStep
    rw [if_pos (by rfl)]
    go_simp
    exact hK.out _ _ (Below.refl _ _) rfl _ rfl
  case a_2 =>
    intro wq hbw st  K hK
    simp only [Act.put, List.setIfInBounds_toArray, List.set_cons_zero, List.set_cons_succ] at hK ⊢
    unfold opStep
    rw [if_pos (by rfl)]
    go_simp
    exact hK.out _ _ (Below.refl _ _) rfl _ rfl
  case a_3 =>
    intro wq hbw st  K hK
    simp only [Act.put, List.setIfInBounds_toArray, List.set_cons_zero, List.set_cons_succ] at hK ⊢
    unfold opStep
    rw [if_pos (by rfl)]
    refine wp_load_msg (.tmp 12) (by rfl) w7.heap.size cp (by rfl) (HG.out.1.on hbw) HLEN.out ?_
    exact hK.out _ _ (Below.refl _ _) rfl _ rfl
  case a_4 =>
    intro wq hbw st  K hK
    simp only [Act.put, List.setIfInBounds_toArray, List.set_cons_zero, List.set_cons_succ] at hK ⊢
    unfold opStep
    rw [if_pos (by rfl)]
    go_simp
    exact hK.out _ _ (Below.refl _ _) rfl _ rfl
  case a_5 =>
    intro wq hbw st  K hK
    simp only [Act.put, List.setIfInBounds_toArray, List.set_cons_zero, List.set_cons_succ] at hK ⊢
    unfold opStep
    rw [if_pos (by rfl)]
    go_simp
    exact hK.out _ _ (Below.refl _ _) rfl _ rfl
  case a_6 =>
    intro wq hbw st  K hK
    simp only [Act.put, List.setIfInBounds_toArray, List.set_cons_zero, List.set_cons_succ] at hK ⊢
    unfold opStep
    rw [if_pos (by rfl)]
    go_simp
    exact hK.out _ _ (Below.refl _ _) rfl _ rfl
  case a_7 =>
    intro wq hbw st  K hK
    simp only [Act.put, List.setIfInBounds_toArray, List.set_cons_zero, List.set_cons_succ] at hK ⊢
    unfold opStep
    rw [if_pos (by rfl)]
    go_simp
    refine (HMS.out wq (HG.out.2.2.2.trans (hbw.mono HG.out.2.2.2.size))).mono ?_
    rintro e wz ⟨cs, rfl, hbz, hcs⟩
    go_simp
    exact hK.out _ _ hbz ⟨cs, rfl, hcs.mono fun _ _ _ => trivial⟩ _ rfl
  case a_8 =>
    intro wq hbw st x7 h7 K hK
    simp only [Act.put, List.setIfInBounds_toArray, List.set_cons_zero, List.set_cons_succ] at hK ⊢
    unfold opStep
    rw [if_pos (by rfl)]
    go_simp
    obtain ⟨cs, rfl, hcs⟩ := h7
    refine (same_message cp cs X wq (HG.out.2.1.on hbw) hcs).mono ?_
    rintro e wz ⟨rfl, hbz⟩
    go_simp
    exact hK.out _ _ hbz rfl _ rfl
  case a_9 =>
    intro wq hbw st  K hK
    simp only [Act.put, List.setIfInBounds_toArray, List.set_cons_zero, List.set_cons_succ] at hK ⊢
    unfold opStep
    rw [if_pos (by rfl)]
    go_simp
    exact hK.out _ _ (Below.refl _ _) rfl _ rfl
  case a_10 =>
    intro wq hbw st  K hK
    simp only [Act.put, List.setIfInBounds_toArray, List.set_cons_zero, List.set_cons_succ] at hK ⊢
    unfold opStep
    rw [if_pos (by rfl)]
    go_simp
    exact hK.out _ _ (Below.refl _ _) rfl _ rfl
  case a_fin =>
    intro wq hbw
    intro x7 h7
    try simp only [FinAll]
    simp only [Act.put, List.setIfInBounds_toArray, List.set_cons_zero, List.set_cons_succ]
    have H9 : Hid (Blk wq w7.heap.size 39 cp.toArray ∧ CellsD (fun k => w6.heap.size ≤ k ∧ k < w7.heap.size) wq cp (msgD X) ∧ NetAt (fun k => (k = n ∨ k = b ∨ w4.heap.size ≤ k) ∧ k < w6.heap.size) n b (.map none) (s1 X) wq ∧ Below W.heap.size W wq) := Lib.hid ⟨HG.out.1.on hbw, HG.out.2.1.on hbw, HG.out.2.2.1.on hbw, HG.out.2.2.2.trans (hbw.mono HG.out.2.2.2.size)⟩
    clear hbw h7 HG
    have HCL := Lib.hid (spoil_any X cp wq H9.out.2.1)
    go_wp2_with (refine wpList_load_msg rfl (.tmp 12) rfl w7.heap.size cp rfl H9.out.1 HLEN.out ?_)
    refine HCL.out.mono ?_
    rintro e w10 ⟨rfl, hk10⟩
    have HN10 : Hid (NetAt (fun k => ((k = n ∨ k = b ∨ w4.heap.size ≤ k) ∧ k < w6.heap.size) ∨ w10.heap.size ≤ k) n b (.map none) (s1 X) w10) := Lib.hid ((H9.out.2.2.1.kept hk10.kept fun k hk e => by have h1 := hk.2; have h2 := e.1; omega).mono fun k hk _ => .inl hk)
    have HB10 : Hid (Below W.heap.size W w10 ∧ w6.heap.size ≤ w10.heap.size) := Lib.hid ⟨H9.out.2.2.2.trans (hk10.kept.below H9.out.2.2.2.size fun k hk e => by have h1 := HB6.out.size; have h2 := e.1; omega), by have h1 := H9.out.1.lt; have h2 := hk10.size; have h3 := HB6.out.size; exact Nat.le_trans (Nat.le_trans (Nat.le_of_lt (Nat.lt_of_le_of_lt (HSZ67.out) h1)) (Nat.le_refl _)) h2⟩
    clear hk10 HCL H9 HLEN HONE
    have HCL := Lib.hid (duplicate_any 1 (by unfold I64; omega) HN10.out (fun k hk => .inr hk) (show (0 : Int) ≤ 1 by decide) (show (1 : Int) < 4611686018427387904 by decide) (show (0 : Int) ≤ 0 by decide) (show (0 : Int) < 4611686018427387904 by decide) (show 1 < 1000000000 by decide) rfl)
    rw [st2 X] at HCL
    go_wp2_with fail
    refine HCL.out.mono ?_
    rintro e w11 ⟨rfl, hn11, hk11⟩
    have HN11 : Hid (NetAt (fun k => (((k = n ∨ k = b ∨ w4.heap.size ≤ k) ∧ k < w6.heap.size) ∨ w10.heap.size ≤ k) ∧ k < w11.heap.size) n b (.map none) (s2 X) w11) := Lib.hid (hn11.mono fun k hk hlt => ⟨hk, hlt⟩)
    have HB11 : Hid (Below W.heap.size W w11 ∧ n < w11.heap.size ∧ b < w11.heap.size) := Lib.hid ⟨HB10.out.1.trans (hk11.below HB10.out.1.size fun k hk e => by have := HLE.out; omega), hn11.box.lt, hn11.blt⟩
    clear hn11 hk11 HCL HN10 HB10 HB6
    have HCL := Lib.hid (deliver_any 1 (by unfold I64; omega) HN11.out (show (0 : Int) ≤ 0 by decide) (show (0 : Int) < 4611686018427387904 by decide))
    rw [st3 X HP2.out] at HCL
    go_wp2_with fail
    refine HCL.out.mono ?_
    rintro e w12 ⟨cq, rfl, hn12, hk12, hc12⟩
    have HC12 := Lib.hid (show CellsD (fun k => w11.heap.size ≤ k ∧ k < w12.heap.size) w12 cq (msgD X) from ⟨hc12.1, fun i u d e1 e2 => (hc12.2 i u d e1 e2).lt⟩)
    have HN12 := Lib.hid hn12
    have HB12 : Hid (Below W.heap.size W w12 ∧ w11.heap.size ≤ w12.heap.size) := Lib.hid ⟨HB11.out.1.trans (hk12.below HB11.out.1.size fun k hk e => by have := HLE.out; omega), hk12.size⟩
    have HLEN := Lib.hid (msg_len hc12)
    have HONE := Lib.hid (CellsD.all hc12)
    have HS : Hid (Blk (w12.alloc (.cells zeroC.toArray 39)) w12.heap.size 39 zeroC.toArray) := Lib.hid (Blk.new w12 _ _)
    clear hn12 hk12 hc12 HCL HN11
    go_upto_region 19 with ((refine wpList_store_msg rfl (.tmp 16) (.tmp 85) rfl w12.heap.size zeroC.toArray cq rfl rfl HS.out rfl HLEN.out HONE.out ?_; intro w13 hB13 hk13))
    have H23 : Hid (Below w12.heap.size w12 w13) := Lib.hid (((Kept.of ((Below.refl w12.heap.size w12).alloc (Nat.le_refl _) (.cells zeroC.toArray 39)) : Kept (fun b => b = w12.heap.size) w12 _).trans hk13).below (Nat.le_refl _) fun k hk e => by omega)
    have HG : Hid (Blk w13 w12.heap.size 39 cq.toArray ∧ CellsD (fun k => w11.heap.size ≤ k ∧ k < w12.heap.size) w13 cq (msgD X) ∧ NetAt (fun k => (((k = n ∨ k = b ∨ w4.heap.size ≤ k) ∧ k < w6.heap.size) ∨ w10.heap.size ≤ k) ∧ k < w11.heap.size) n b (.map none) (s3 X) w13 ∧ Below W.heap.size W w13) := Lib.hid ⟨hB13, HC12.out.on H23.out, HN12.out.on H23.out, HB12.out.1.trans (H23.out.mono HB12.out.1.size)⟩
    clear hB13 hk13 HS H23 HC12 HN12
    refine region_left [.is (.int .i64 0), .is (.bool false), .is (.bool false), .is (.int .i64 0), .is (.bool false), .is (.bool false), .is (.bool false), .is (.agg cq.toArray), .is (.slice t1 tag.length c1), .is (.slice t2 delta.length c2), .is (.slice t3 root.length c3), (.has (fun x w => ∃ cs : List Value, x = .agg cs.toArray ∧ CellsD (fun _ => True) w cs (msgD X)) fun x w w' hb ⟨cs, e, h⟩ => ⟨cs, e, h.on hb⟩), .is (.bool true), .is (.bool false), .is (.bool false)] (by kernel_rfl) rfl (by kernel_rfl) (by kernel_rfl) (.cons ?b_0 (.cons ?b_1 (.cons ?b_2 (.cons ?b_3 (.cons ?b_4 (.cons ?b_5 (.cons ?b_6 (.cons ?b_7 (.cons ?b_8 (.cons ?b_9 (.cons ?b_10 (.cons ?b_11 (.cons ?b_12 (.cons ?b_13 (.cons ?b_14 .nil))))))))))))))) ?b_fin
    case b_0 =>
      intro wq hbw st  K hK
      simp only [Act.put, List.setIfInBounds_toArray, List.set_cons_zero, List.set_cons_succ] at hK ⊢
      unfold opStep
      rw [if_pos (by rfl)]
      go_simp
      exact hK.out _ _ (Below.refl _ _) rfl _ rfl
    case b_1 =>
      intro wq hbw st  K hK
      simp only [Act.put, List.setIfInBounds_toArray, List.set_cons_zero, List.set_cons_succ] at hK ⊢
      unfold opStep
      rw [if_pos (by rfl)]
      go_simp
      exact hK.out _ _ (Below.refl _ _) rfl _ rfl
    case b_2 =>
      intro wq hbw st  K hK
      simp only [Act.put, List.setIfInBounds_toArray, List.set_cons_zero, List.set_cons_succ] at hK ⊢
      unfold opStep
      rw [if_pos (by rfl)]
      go_simp
      exact hK.out _ _ (Below.refl _ _) rfl _ rfl
    case b_3 =>
      intro wq hbw st  K hK
      simp only [Act.put, List.setIfInBounds_toArray, List.set_cons_zero, List.set_cons_succ] at hK ⊢
      unfold opStep
      rw [if_pos (by rfl)]
      go_simp
      exact hK.out _ _ (Below.refl _ _) rfl _ rfl
    case b_4 =>
      intro wq hbw st  K hK
      simp only [Act.put, List.setIfInBounds_toArray, List.set_cons_zero, List.set_cons_succ] at hK ⊢
      unfold opStep
      rw [if_pos (by rfl)]
      go_simp
      exact hK.out _ _ (Below.refl _ _) rfl _ rfl
    case b_5 =>
      intro wq hbw st  K hK
      simp only [Act.put, List.setIfInBounds_toArray, List.set_cons_zero, List.set_cons_succ] at hK ⊢
      unfold opStep
      rw [if_pos (by rfl)]
      go_simp
      exact hK.out _ _ (Below.refl _ _) rfl _ rfl
    case b_6 =>
      intro wq hbw st  K hK
      simp only [Act.put, List.setIfInBounds_toArray, List.set_cons_zero, List.set_cons_succ] at hK ⊢
      unfold opStep
      rw [if_pos (by rfl)]
      go_simp
      exact hK.out _ _ (Below.refl _ _) rfl _ rfl
    case b_7 =>
      intro wq hbw st  K hK
      simp only [Act.put, List.setIfInBounds_toArray, List.set_cons_zero, List.set_cons_succ] at hK ⊢
      unfold opStep
      rw [if_pos (by rfl)]
      refine wp_load_msg (.tmp 16) (by rfl) w12.heap.size cq (by rfl) (HG.out.1.on hbw) HLEN.out ?_
      exact hK.out _ _ (Below.refl _ _) rfl _ rfl
    case b_8 =>
      intro wq hbw st  K hK
      simp only [Act.put, List.setIfInBounds_toArray, List.set_cons_zero, List.set_cons_succ] at hK ⊢
      unfold opStep
      rw [if_pos (by rfl)]
      go_simp
      exact hK.out _ _ (Below.refl _ _) rfl _ rfl
    case b_9 =>
      intro wq hbw st  K hK
      simp only [Act.put, List.setIfInBounds_toArray, List.set_cons_zero, List.set_cons_succ] at hK ⊢
      unfold opStep
      rw [if_pos (by rfl)]
      go_simp
      exact hK.out _ _ (Below.refl _ _) rfl _ rfl
    case b_10 =>
      intro wq hbw st  K hK
      simp only [Act.put, List.setIfInBounds_toArray, List.set_cons_zero, List.set_cons_succ] at hK ⊢
      unfold opStep
      rw [if_pos (by rfl)]
      go_simp
      exact hK.out _ _ (Below.refl _ _) rfl _ rfl
    case b_11 =>
      intro wq hbw st  K hK
      simp only [Act.put, List.setIfInBounds_toArray, List.set_cons_zero, List.set_cons_succ] at hK ⊢
      unfold opStep
      rw [if_pos (by rfl)]
      go_simp
      refine (HMS.out wq (HG.out.2.2.2.trans (hbw.mono HG.out.2.2.2.size))).mono ?_
      rintro e wz ⟨cs, rfl, hbz, hcs⟩
      go_simp
      exact hK.out _ _ hbz ⟨cs, rfl, hcs.mono fun _ _ _ => trivial⟩ _ rfl
    case b_12 =>
      intro wq hbw st x11 h11 K hK
      simp only [Act.put, List.setIfInBounds_toArray, List.set_cons_zero, List.set_cons_succ] at hK ⊢
      unfold opStep
      rw [if_pos (by rfl)]
      go_simp
      obtain ⟨cs, rfl, hcs⟩ := h11
      refine (same_message cq cs X wq (HG.out.2.1.on hbw) hcs).mono ?_
      rintro e wz ⟨rfl, hbz⟩
      go_simp
      exact hK.out _ _ hbz rfl _ rfl
    case b_13 =>
      intro wq hbw st  K hK
      simp only [Act.put, List.setIfInBounds_toArray, List.set_cons_zero, List.set_cons_succ] at hK ⊢
      unfold opStep
      rw [if_pos (by rfl)]
      go_simp
      exact hK.out _ _ (Below.refl _ _) rfl _ rfl
    case b_14 =>
      intro wq hbw st  K hK
      simp only [Act.put, List.setIfInBounds_toArray, List.set_cons_zero, List.set_cons_succ] at hK ⊢
      unfold opStep
      rw [if_pos (by rfl)]
      go_simp
      exact hK.out _ _ (Below.refl _ _) rfl _ rfl
    case b_fin =>
      intro wq hbw
      intro x11 h11
      try simp only [FinAll]
      simp only [Act.put, List.setIfInBounds_toArray, List.set_cons_zero, List.set_cons_succ]
      have H14 : Hid (Blk wq w12.heap.size 39 cq.toArray ∧ CellsD (fun k => w11.heap.size ≤ k ∧ k < w12.heap.size) wq cq (msgD X) ∧ NetAt (fun k => (((k = n ∨ k = b ∨ w4.heap.size ≤ k) ∧ k < w6.heap.size) ∨ w10.heap.size ≤ k) ∧ k < w11.heap.size) n b (.map none) (s3 X) wq ∧ Below W.heap.size W wq) := Lib.hid ⟨HG.out.1.on hbw, HG.out.2.1.on hbw, HG.out.2.2.1.on hbw, HG.out.2.2.2.trans (hbw.mono HG.out.2.2.2.size)⟩
      clear hbw h11 HG
      have HCL := Lib.hid (spoil_any X cq wq H14.out.2.1)
      go_wp2_with (refine wpList_load_msg rfl (.tmp 16) rfl w12.heap.size cq rfl H14.out.1 HLEN.out ?_)
      refine HCL.out.mono ?_
      rintro e w15 ⟨rfl, hk15⟩
      have HN15 := Lib.hid (H14.out.2.2.1.kept hk15.kept fun k hk e => by have h1 := hk.2; have h2 := e.1; omega)
      have HB15 : Hid (Below W.heap.size W w15) := Lib.hid (H14.out.2.2.2.trans (hk15.kept.below H14.out.2.2.2.size fun k hk e => by have h1 := HB11.out.1.size; have h2 := e.1; omega))
      clear hk15 HCL H14 HLEN HONE
      have HCL := Lib.hid (deliver_any 2 (by unfold I64; omega) HN15.out (show (0 : Int) ≤ 1 by decide) (show (1 : Int) < 4611686018427387904 by decide))
      rw [st4 X HP2.out] at HCL
      go_wp2_with fail
      refine HCL.out.mono ?_
      rintro e w16 ⟨cz, rfl, hn16, hk16, hc16⟩
      have HC16 := Lib.hid hc16
      have HB16 : Hid (Below W.heap.size W w16) := Lib.hid (HB15.out.trans (hk16.below HB15.out.size fun k hk e => by have := HLE.out; omega))
      have HLEN := Lib.hid (msg_len hc16)
      have HONE := Lib.hid (CellsD.all hc16)
      have HS : Hid (Blk (w16.alloc (.cells zeroC.toArray 39)) w16.heap.size 39 zeroC.toArray) := Lib.hid (Blk.new w16 _ _)
      clear hn16 hk16 hc16 HCL HN15
      go_upto_region 23 with ((refine wpList_store_msg rfl (.tmp 18) (.tmp 107) rfl w16.heap.size zeroC.toArray cz rfl rfl HS.out rfl HLEN.out HONE.out ?_; intro w17 hB17 hk17))
      have H67 : Hid (Below w16.heap.size w16 w17) := Lib.hid (((Kept.of ((Below.refl w16.heap.size w16).alloc (Nat.le_refl _) (.cells zeroC.toArray 39)) : Kept (fun b => b = w16.heap.size) w16 _).trans hk17).below (Nat.le_refl _) fun k hk e => by omega)
      have HG : Hid (Blk w17 w16.heap.size 39 cz.toArray ∧ CellsD (fun k => w15.heap.size ≤ k) w17 cz (msgD X) ∧ True ∧ Below W.heap.size W w17) := Lib.hid ⟨hB17, HC16.out.on H67.out, trivial, HB16.out.trans (H67.out.mono HB16.out.size)⟩
      clear hB17 hk17 HS H67 HC16
      refine region_left [.is (.int .i64 0), .is (.bool true), .is (.bool true), .is (.agg cz.toArray), .is (.slice t1 tag.length c1), .is (.slice t2 delta.length c2), .is (.slice t3 root.length c3), (.has (fun x w => ∃ cs : List Value, x = .agg cs.toArray ∧ CellsD (fun _ => True) w cs (msgD X)) fun x w w' hb ⟨cs, e, h⟩ => ⟨cs, e, h.on hb⟩), .is (.bool true), .is (.bool true), .is (.bool true)] (by kernel_rfl) rfl (by kernel_rfl) (by kernel_rfl) (.cons ?c_0 (.cons ?c_1 (.cons ?c_2 (.cons ?c_3 (.cons ?c_4 (.cons ?c_5 (.cons ?c_6 (.cons ?c_7 (.cons ?c_8 (.cons ?c_9 (.cons ?c_10 .nil))))))))))) ?c_fin
      case c_0 =>
        intro wq hbw st  K hK
        simp only [Act.put, List.setIfInBounds_toArray, List.set_cons_zero, List.set_cons_succ] at hK ⊢
        unfold opStep
        rw [if_pos (by rfl)]
        go_simp
        exact hK.out _ _ (Below.refl _ _) rfl _ rfl
      case c_1 =>
        intro wq hbw st  K hK
        simp only [Act.put, List.setIfInBounds_toArray, List.set_cons_zero, List.set_cons_succ] at hK ⊢
        unfold opStep
        rw [if_pos (by rfl)]
        go_simp
        exact hK.out _ _ (Below.refl _ _) rfl _ rfl
      case c_2 =>
        intro wq hbw st  K hK
        simp only [Act.put, List.setIfInBounds_toArray, List.set_cons_zero, List.set_cons_succ] at hK ⊢
        unfold opStep
        rw [if_pos (by rfl)]
        go_simp
        exact hK.out _ _ (Below.refl _ _) rfl _ rfl
      case c_3 =>
        intro wq hbw st  K hK
        simp only [Act.put, List.setIfInBounds_toArray, List.set_cons_zero, List.set_cons_succ] at hK ⊢
        unfold opStep
        rw [if_pos (by rfl)]
        refine wp_load_msg (.tmp 18) (by rfl) w16.heap.size cz (by rfl) (HG.out.1.on hbw) HLEN.out ?_
        exact hK.out _ _ (Below.refl _ _) rfl _ rfl
      case c_4 =>
        intro wq hbw st  K hK
        simp only [Act.put, List.setIfInBounds_toArray, List.set_cons_zero, List.set_cons_succ] at hK ⊢
        unfold opStep
        rw [if_pos (by rfl)]
        go_simp
        exact hK.out _ _ (Below.refl _ _) rfl _ rfl
      case c_5 =>
        intro wq hbw st  K hK
        simp only [Act.put, List.setIfInBounds_toArray, List.set_cons_zero, List.set_cons_succ] at hK ⊢
        unfold opStep
        rw [if_pos (by rfl)]
        go_simp
        exact hK.out _ _ (Below.refl _ _) rfl _ rfl
      case c_6 =>
        intro wq hbw st  K hK
        simp only [Act.put, List.setIfInBounds_toArray, List.set_cons_zero, List.set_cons_succ] at hK ⊢
        unfold opStep
        rw [if_pos (by rfl)]
        go_simp
        exact hK.out _ _ (Below.refl _ _) rfl _ rfl
      case c_7 =>
        intro wq hbw st  K hK
        simp only [Act.put, List.setIfInBounds_toArray, List.set_cons_zero, List.set_cons_succ] at hK ⊢
        unfold opStep
        rw [if_pos (by rfl)]
        go_simp
        refine (HMS.out wq (HG.out.2.2.2.trans (hbw.mono HG.out.2.2.2.size))).mono ?_
        rintro e wz ⟨cs, rfl, hbz, hcs⟩
        go_simp
        exact hK.out _ _ hbz ⟨cs, rfl, hcs.mono fun _ _ _ => trivial⟩ _ rfl
      case c_8 =>
        intro wq hbw st x7 h7 K hK
        simp only [Act.put, List.setIfInBounds_toArray, List.set_cons_zero, List.set_cons_succ] at hK ⊢
        unfold opStep
        rw [if_pos (by rfl)]
        go_simp
        obtain ⟨cs, rfl, hcs⟩ := h7
        refine (same_message cz cs X wq (HG.out.2.1.on hbw) hcs).mono ?_
        rintro e wz ⟨rfl, hbz⟩
        go_simp
        exact hK.out _ _ hbz rfl _ rfl
      case c_9 =>
        intro wq hbw st  K hK
        simp only [Act.put, List.setIfInBounds_toArray, List.set_cons_zero, List.set_cons_succ] at hK ⊢
        unfold opStep
        rw [if_pos (by rfl)]
        go_simp
        exact hK.out _ _ (Below.refl _ _) rfl _ rfl
      case c_10 =>
        intro wq hbw st x7 h7 K hK
        simp only [Act.put, List.setIfInBounds_toArray, List.set_cons_zero, List.set_cons_succ] at hK ⊢
        unfold opStep
        rw [if_pos (by rfl)]
        go_simp
        exact hK.out _ _ (Below.refl _ _) rfl _ rfl
      case c_fin =>
        intro wq hbw
        intro x7 h7
        try simp only [FinAll]
        simp only [Act.put, List.setIfInBounds_toArray, List.set_cons_zero, List.set_cons_succ]
        have H18 := Lib.hid (HG.out.2.2.2.trans (hbw.mono HG.out.2.2.2.size))
        clear hbw h7 HG
        go_wp2
        exact HF.out _ _ ⟨rfl, H18.out⟩

theorem lifted (os : Os) (started : os.Started) (H : Type) (enc : TypeId × Value → H) :
    ReturnsInHanded {} Try.checked os 3 .any (Rows.netMemorySpec.pre6 enc Try.prog Try.f3 Rows.netMemoryRow.domain false) (Rows.netMemorySpec.post enc Try.prog Try.f3 false true false false) := by
  refine returnsInHanded_of_change (C := Try.checked) own started (by kernel_rfl) Try.func3
    (ChangeSpec.witness6 (enc := enc) (C := Try.checked) false ⟨#[], #[.slice none 0 0, .slice none 0 0, .slice none 0 0], []⟩ 8 (by kernel_rfl) (by kernel_rfl) (by kernel_rfl) (by kernel_rfl)) ?_
  intro W base args ds gs before hval0 hW hcnd _
  have hval : ∀ (j : Nat) t v, Try.f3.params[j]? = some t → args[j]? = some v → Value.okWide Try.prog W .any base t v := hval0
  have hW' := hW
  obtain ⟨p, q, hA0, hV, rfl, hfz, hnd⟩ := hW
  have hA : DataW.TrodAll enc Try.prog W 0 (fun _ => true) true Try.f3.params.toList args.toList ds p := hA0
  rw [Try.params3] at hA hval
  have hfp := free_left hfz
  obtain ⟨v0, vs0, d0, ds0, p0, q0, hargs, rfl, rfl, t0, r0⟩ := trodAll_cons hA
  obtain ⟨v1, vs1, d1, ds1, p1, q1, rfl, rfl, rfl, t1, r1⟩ := trodAll_cons r0
  obtain ⟨v2, vs2, d2, ds2, p2, q2, rfl, rfl, rfl, t2, r2⟩ := trodAll_cons r1
  obtain ⟨rfl, rfl, rfl⟩ := trodAll_nil r2
  obtain rfl : args = #[v0, v1, v2] := by cases args; simp_all
  obtain ⟨rfl, rfl⟩ := trodVars_none hV
  have o0 := okWide_slice Try.underlying22 (hval 0 22 v0 rfl rfl)
  have o1 := okWide_slice Try.underlying22 (hval 1 22 v1 rfl rfl)
  have o2 := okWide_slice Try.underlying22 (hval 2 22 v2 rfl rfl)
  obtain ⟨a0, l0, k0, rfl⟩ := o0
  obtain ⟨a1, l1, k1, rfl⟩ := o1
  obtain ⟨a2, l2, k2, rfl⟩ := o2
  obtain ⟨f0, t0⟩ := t0
  obtain ⟨f1, t1⟩ := t1
  obtain ⟨f2, t2⟩ := t2
  simp only [Value.cells] at t0 t1 t2
  obtain ⟨b0, x0, c0, e0, z0, zz0, h0, -⟩ := open_by t0 (free_left hfp)
  obtain ⟨b1, x1, c1, e1, z1, zz1, h1, -⟩ := open_by t1 (free_left (free_right hfp))
  obtain ⟨b2, x2, c2, e2, z2, zz2, h2, -⟩ := open_by t2 (free_left (free_right (free_right hfp)))
  rw [e0, e1, e2]
  rw [e0] at h0
  rw [e1] at h1
  rw [e2] at h2
  refine (walk b0 b1 b2 x0 x1 x2 c0 c1 c2 W h0 h1 h2 (Nat.le_trans z0 zz0) (Nat.le_trans z1 zz1) (Nat.le_trans z2 zz2)).mono fun e W' ⟨he, hb⟩ => ?_
  subst he
  rw [e0, e1, e2] at hW'
  exact ⟨_, rfl, law_post laidOut rfl (fun _ _ => rfl) (by kernel_rfl) Try.underlying4 (by rw [Try.params3]; exact fun t ht => by simp at ht; rcases ht with rfl; all_goals exact ⟨by kernel_rfl, of_decide_eq_true (by kernel_rfl)⟩) hW' hb⟩

theorem over : Rows.netMemoryRow.holds Try.pinned (OpenSpec.ofChange Rows.netMemorySpec) :=
  OpenClaim.holds_of_wide 3 Try.f3 rfl rfl rfl rfl rfl rfl rfl ⟨rfl, rfl, rfl, rfl, rfl⟩ rfl rfl rfl rfl rfl (by kernel_rfl) Try.func3 (by kernel_rfl)
    (of_decide_eq_true (by kernel_rfl)) (by unfold Func.isWrapper; first | (rw [if_pos (by decide +kernel)]; kernel_rfl) | (rw [if_neg (by decide +kernel)]; exact ⟨rfl, rfl⟩))
    (fun os started H enc _ => lifted os started H enc)

theorem proved : Rows.NetMemorySaid := over
end Go.Proofs.Ytmcdmcnbnnfhnaa.netMemory
