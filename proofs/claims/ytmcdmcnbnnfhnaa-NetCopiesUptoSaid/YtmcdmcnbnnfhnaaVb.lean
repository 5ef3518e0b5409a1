/-
  Chapter 28: a network's state in memory; put.
-/
import Derived.Test.YtmcdmcnbnnfhnaaDk
import Derived.Test.YtmcdmcnbnnfhnaaVa
namespace Go.Proofs.Ytmcdmcnbnnfhnaa
open Go.RowKit

structure NetS where
  limit : Int
  last : Int
  cnt : Nat
  ms : Int → Option MsgM
  grp : Option (Int → Option Int)
  sent : Int
  twice : Int
  taken : Int
  gone : Int
def updM (f : Int → Option MsgM) (x : Int) (m : Option MsgM) : Int → Option MsgM := fun y => if y = x then m else f y
/-- The map of groups. -/
def GrpAt (P : Nat → Prop) (w : World) (gv : Value) (n b : Nat) (g : Option (Int → Option Int)) : Prop :=
  (gv = .map none ∧ g = none) ∨ ∃ k c M f, gv = .map (some k) ∧ g = some f ∧ P k ∧ k ≠ n ∧ k ≠ b ∧ MapV w k c M ∧ ∀ x, I64 x → M x = (f x).map fun y => .int .i64 y
/-- The messages in the map. -/
def WayAt (P : Nat → Prop) (w : World) (n b c : Nat) (ms : Int → Option MsgM) : Prop :=
  ∃ M, MapV w b c M ∧ ∀ x, I64 x → (ms x = none → M x = none) ∧ ∀ m, ms x = some m → ∃ cs : List Value, M x = some (.agg cs.toArray) ∧ CellsD (fun k => P k ∧ k ≠ n ∧ k ≠ b) w cs (msgD m)
def netC (s : NetS) (b : Nat) (gv : Value) : Array Value := #[.int .i64 s.limit, .int .i64 s.last, .map (some b), gv, .int .i64 s.sent, .int .i64 s.twice, .int .i64 s.taken, .int .i64 s.gone]
/-- The network at n with its map of messages at b. -/
structure NetAt (P : Nat → Prop) (n b : Nat) (gv : Value) (s : NetS) (w : World) : Prop where
  pn : P n
  pb : P b
  ne : n ≠ b
  box : Blk w n 75 (netC s b gv)
  way : WayAt P w n b s.cnt s.ms
  grp : GrpAt P w gv n b s.grp
section
variable {P P' : Nat → Prop} {n b c : Nat} {gv : Value} {s : NetS} {w w' : World} {ms : Int → Option MsgM} {g : Option (Int → Option Int)}
theorem WayAt.keep (h : WayAt P w n b c ms) (hb : w'.heap[b]? = w.heap[b]?) (hs : w.heap.size ≤ w'.heap.size) (hk : ∀ k, P k → k ≠ n → k ≠ b → k < w.heap.size → w'.heap[k]? = w.heap[k]?) : WayAt P w' n b c ms := by
  obtain ⟨M, h1, h2⟩ := h
  refine ⟨M, h1.at_ hb, fun x hx => ⟨(h2 x hx).1, fun m hm => ?_⟩⟩
  obtain ⟨cs, a1, a2⟩ := (h2 x hx).2 m hm
  exact ⟨cs, a1, a2.1, fun i u d e1 e2 => (a2.2 i u d e1 e2).keep hs fun k hk' hlt => hk k hk'.1 hk'.2.1 hk'.2.2 hlt⟩
theorem WayAt.mono (h : WayAt P w n b c ms) (hp : ∀ k, P k → k < w.heap.size → P' k) : WayAt P' w n b c ms := by
  obtain ⟨M, h1, h2⟩ := h
  refine ⟨M, h1, fun x hx => ⟨(h2 x hx).1, fun m hm => ?_⟩⟩
  obtain ⟨cs, a1, a2⟩ := (h2 x hx).2 m hm
  exact ⟨cs, a1, a2.mono fun k hk hlt => ⟨hp k hk.1 hlt, hk.2⟩⟩
theorem GrpAt.keep (h : GrpAt P w gv n b g) (hk : ∀ k, P k → k ≠ n → k ≠ b → k < w.heap.size → w'.heap[k]? = w.heap[k]?) : GrpAt P w' gv n b g := by
  rcases h with h | ⟨k, c, M, f, h1, h2, h3, h4, h5, h6, h7⟩
  · exact .inl h
  · exact .inr ⟨k, c, M, f, h1, h2, h3, h4, h5, h6.at_ (hk k h3 h4 h5 h6.lt), h7⟩
theorem GrpAt.mono (h : GrpAt P w gv n b g) (hp : ∀ k, P k → k < w.heap.size → P' k) : GrpAt P' w gv n b g := by
  rcases h with h | ⟨k, c, M, f, h1, h2, h3, h4, h5, h6, h7⟩
  · exact .inl h
  · exact .inr ⟨k, c, M, f, h1, h2, hp k h3 h6.lt, h4, h5, h6, h7⟩
theorem NetAt.blt (h : NetAt P n b gv s w) : b < w.heap.size := by obtain ⟨M, h1, _⟩ := h.way; exact h1.lt
theorem NetAt.keep (h : NetAt P n b gv s w) (hs : w.heap.size ≤ w'.heap.size) (hk : ∀ k, P k → k < w.heap.size → w'.heap[k]? = w.heap[k]?) : NetAt P n b gv s w' :=
  ⟨h.pn, h.pb, h.ne, (hk n h.pn h.box.lt).trans h.box, h.way.keep (hk b h.pb h.blt) hs fun k a _ _ d => hk k a d, h.grp.keep fun k a _ _ d => hk k a d⟩
theorem NetAt.on (h : NetAt P n b gv s w) (hb : Below w.heap.size w w') : NetAt P n b gv s w' := h.keep hb.size fun k _ hlt => hb.block k hlt
theorem NetAt.kept {S : Nat → Prop} (h : NetAt P n b gv s w) (hk : Kept S w w') (hs : ∀ k, P k → ¬ S k) : NetAt P n b gv s w' := h.keep hk.size fun k a hlt => hk.block k hlt (hs k a)
theorem NetAt.mono (h : NetAt P n b gv s w) (hp : ∀ k, P k → k < w.heap.size → P' k) : NetAt P' n b gv s w :=
  ⟨hp n h.pn h.box.lt, hp b h.pb h.blt, h.ne, h.box, h.way.mono hp, h.grp.mono hp⟩
/-- A field written. -/
theorem NetAt.set (h : NetAt P n b gv s w) {s' : NetS} (i : Nat) (u : Value) (hc : netC s' b gv = (netC s b gv).setIfInBounds i u) (e1 : s'.cnt = s.cnt) (e2 : s'.ms = s.ms) (e3 : s'.grp = s.grp) : NetAt P n b gv s' (w.setCell ⟨n, i, none⟩ u) := by
  have hk : ∀ k, k ≠ n → (w.setCell ⟨n, i, none⟩ u).heap[k]? = w.heap[k]? := fun k hk => Below.heap_setCell w _ u k hk
  have hs : w.heap.size ≤ (w.setCell ⟨n, i, none⟩ u).heap.size := by simp [World.setCell]
  refine ⟨h.pn, h.pb, h.ne, ?_, ?_, ?_⟩
  · rw [hc]; exact h.box.set_ i u
  · rw [e1, e2]; exact h.way.keep (hk b h.ne.symm) hs fun k _ hn _ _ => hk k hn
  · rw [e3]; exact h.grp.keep fun k _ hn _ _ => hk k hn
/-- A message put under its number. -/
theorem NetAt.putm (h : NetAt P n b gv s w) {x : Int} {m : MsgM} {cs : List Value} {M : Int → Option Value} {c' : Nat} (hk : Kept (fun k => k = b) w w') (hM : ∀ x, I64 x → (s.ms x = none → M x = none) ∧ ∀ m, s.ms x = some m → ∃ cs : List Value, M x = some (.agg cs.toArray) ∧ CellsD (fun k => P k ∧ k ≠ n ∧ k ≠ b) w cs (msgD m))
    (hw : MapV w' b c' (updV M x (some (.agg cs.toArray)))) (hcs : CellsD (fun k => P k ∧ k ≠ n ∧ k ≠ b) w cs (msgD m)) : NetAt P n b gv { s with cnt := c', ms := updM s.ms x (some m) } w' := by
  have hb : ∀ k, k ≠ b → k < w.heap.size → w'.heap[k]? = w.heap[k]? := fun k hk' hlt => hk.block k hlt hk'
  refine ⟨h.pn, h.pb, h.ne, (hb n h.ne h.box.lt).trans h.box, ⟨_, hw, fun y hy => ?_⟩, h.grp.keep fun k _ _ hkb hlt => hb k hkb hlt⟩
  have hkc : ∀ {cs : List Value} {m : MsgM}, CellsD (fun k => P k ∧ k ≠ n ∧ k ≠ b) w cs (msgD m) → CellsD (fun k => P k ∧ k ≠ n ∧ k ≠ b) w' cs (msgD m) := fun h => ⟨h.1, fun i u d e1 e2 => (h.2 i u d e1 e2).kept hk fun k hk' => hk'.2.2⟩
  by_cases e : y = x
  · subst e
    refine ⟨fun h => ?_, fun m' hm' => ?_⟩
    · simp [updM] at h
    · simp only [updM, if_pos] at hm'
      injection hm' with hm'
      subst hm'
      exact ⟨cs, by simp [updV], hkc hcs⟩
  · simp only [updM, updV, if_neg e]
    refine ⟨(hM y hy).1, fun m' hm' => ?_⟩
    obtain ⟨cs', a1, a2⟩ := (hM y hy).2 m' hm'
    exact ⟨cs', a1, hkc a2⟩
/-- A message taken out. -/
theorem NetAt.delm (h : NetAt P n b gv s w) {x : Int} {M : Int → Option Value} {c' : Nat} (hk : Kept (fun k => k = b) w w') (hM : ∀ x, I64 x → (s.ms x = none → M x = none) ∧ ∀ m, s.ms x = some m → ∃ cs : List Value, M x = some (.agg cs.toArray) ∧ CellsD (fun k => P k ∧ k ≠ n ∧ k ≠ b) w cs (msgD m))
    (hw : MapV w' b c' (updV M x none)) : NetAt P n b gv { s with cnt := c', ms := updM s.ms x none } w' := by
  have hb : ∀ k, k ≠ b → k < w.heap.size → w'.heap[k]? = w.heap[k]? := fun k hk' hlt => hk.block k hlt hk'
  refine ⟨h.pn, h.pb, h.ne, (hb n h.ne h.box.lt).trans h.box, ⟨_, hw, fun y hy => ?_⟩, h.grp.keep fun k _ _ hkb hlt => hb k hkb hlt⟩
  by_cases e : y = x
  · subst e
    exact ⟨fun _ => by simp [updV], fun m' hm' => by simp [updM] at hm'⟩
  · simp only [updM, updV, if_neg e]
    refine ⟨(hM y hy).1, fun m' hm' => ?_⟩
    obtain ⟨cs', a1, a2⟩ := (hM y hy).2 m' hm'
    exact ⟨cs', a1, a2.1, fun i u d e1 e2 => (a2.2 i u d e1 e2).kept hk fun k hk' => hk'.2.2⟩
end
theorem msg_len {P : Nat → Prop} {w : World} {cs : List Value} {m : MsgM} (h : CellsD P w cs (msgD m)) : cs.length = 15 := h.1
def putS (s : NetS) (m : MsgM) : NetS := { s with last := s.last + 1, cnt := s.cnt + 1, ms := updM s.ms (s.last + 1) (some m) }
def PutMade (P : Nat → Prop) (n b : Nat) (gv : Value) (r : Int) (s' : NetS) (w : World) (e : Ending) (w' : World) : Prop := e = .returned (.int .i64 r) ∧ NetAt P n b gv s' w' ∧ Kept (fun k => k = n ∨ k = b) w w'
set_option maxRecDepth 100000 in
set_option maxHeartbeats 4000000 in
theorem put_any {P : Nat → Prop} (n b : Nat) (gv : Value) (s : NetS) (m : MsgM) (cs : List Value) (w : World) (h : NetAt P n b gv s w) (hm : CellsD (fun k => k ≠ n ∧ k ≠ b) w cs (msgD m)) (hP : ∀ k, w.heap.size ≤ k → P k)
    (hl : 0 ≤ s.last) (hl2 : s.last < 4611686018427387904) (hc : s.cnt < 1000000000) (hn : s.ms (s.last + 1) = none) : Calls Try.prog 32 #[.pointer (some ⟨n, 0, none⟩), .agg cs.toArray] w (PutMade P n b gv (s.last + 1) (putS s m) w) := by
  have HN := Lib.hid h
  have HM := Lib.hid hm
  have HLEN := Lib.hid (msg_len hm)
  have HP := Lib.hid hP
  have HC := Lib.hid hc
  have HNO := Lib.hid hn
  have HF : Hid (∀ e w', e = .returned (.int .i64 (s.last + 1)) → NetAt P n b gv (putS s m) w' → Kept (fun k => k = n ∨ k = b) w w' → PutMade P n b gv (s.last + 1) (putS s m) w e w') := Lib.hid fun e w' h1 h2 h3 => ⟨h1, h2, h3⟩
  generalize hQ : PutMade P n b gv (s.last + 1) (putS s m) w = Q at *
  clear hQ
  have d1 : w.cell? ⟨n, 1, none⟩ = some (.int .i64 s.last) := h.box.cell 1
  have f1 : w.frozen? ⟨n, 1, none⟩ = false := h.box.frozen 1
  have z1 : n < w.heap.size := h.box.lt
  clear h hm hP hc hn
  go_enter Try.func32, Try.ntmps32
  go_upto_region 2 with fail
  have HS0 : (World.setCell w ⟨n, 1, none⟩ (.int .i64 (s.last + 1))).heap.size = w.heap.size := by simp [World.setCell]
  have HB : Hid (Blk (World.alloc (World.setCell w ⟨n, 1, none⟩ (.int .i64 (s.last + 1))) (.cells cs.toArray 39)) w.heap.size 39 cs.toArray ∧ NetAt P n b gv { s with last := s.last + 1 } (World.alloc (World.setCell w ⟨n, 1, none⟩ (.int .i64 (s.last + 1))) (.cells cs.toArray 39)) ∧ Kept (fun k => k = n) w (World.alloc (World.setCell w ⟨n, 1, none⟩ (.int .i64 (s.last + 1))) (.cells cs.toArray 39))) :=
    Lib.hid ⟨by have h := Blk.new (World.setCell w ⟨n, 1, none⟩ (.int .i64 (s.last + 1))) 39 cs.toArray; rw [HS0] at h; exact h, (HN.out.set (s' := { s with last := s.last + 1 }) 1 (.int .i64 (s.last + 1)) rfl rfl rfl rfl).on ((Below.refl _ _).alloc (Nat.le_refl _) _), (Kept.set (S := fun k => k = n) (p := ⟨n, 1, none⟩) _ rfl).trans (Kept.of ((Below.refl _ _).alloc (Nat.le_refl _) _))⟩
  generalize hw1 : World.alloc (World.setCell w _ _) _ = w1 at HB ⊢
  clear hw1 d1 f1 HS0
  have HM1 : Hid (CellsD (fun k => k ≠ n ∧ k ≠ b) w1 cs (msgD m)) := Lib.hid ⟨HM.out.1, fun i u d e1 e2 => (HM.out.2 i u d e1 e2).kept HB.out.2.2 fun k hk => hk.1⟩
  have HZ := Lib.hid (Nat.lt_of_lt_of_le z1 HB.out.2.2.size)
  have HS := Lib.hid HB.out.2.2.size
  clear HM HN z1
  refine region_tail [.is (.pointer (some ⟨n, 0, none⟩)), .is (.pointer (some ⟨n, 0, none⟩)), .is (.pointer (some ⟨n, 2, none⟩)), .is (.map (some b)), .is (.pointer (some ⟨n, 0, none⟩)), .is (.pointer (some ⟨n, 0, none⟩)), .is (.pointer (some ⟨n, 1, none⟩)), .is (.int .i64 (s.last + 1)), .is (.agg cs.toArray), (.has (fun x w => ∃ cs' : List Value, x = .agg cs'.toArray ∧ CellsD (fun k => w1.heap.size ≤ k) w cs' (msgD m)) fun x w w' hb ⟨cs', e, h⟩ => ⟨cs', e, h.on hb⟩), .is undef] 10 (by kernel_rfl) rfl (by kernel_rfl) (by kernel_rfl) (by kernel_rfl) (by kernel_rfl) rfl (.cons ?c_0 (.cons ?c_1 (.cons ?c_2 (.cons ?c_3 (.cons ?c_4 (.cons ?c_5 (.cons ?c_6 (.cons ?c_7 (.cons ?c_8 (.cons ?c_9 .nil)))))))))) ?c_fin
  case c_0 =>
    intro wq hbw st  K hK
    simp only [Act.put, List.setIfInBounds_toArray, List.set_cons_zero, List.set_cons_succ] at hK ⊢
    unfold opStep
    rw [if_pos (by rfl)]
    go_simp
    exact hK.out _ _ (Below.refl _ _) rfl _ rfl
  case c_1 =>
    intro wq hbw st  K hK
    simp only [Act.put, List.setIfInBounds_toArray, List.set_cons_zero, List.set_cons_succ] at hK ⊢
    unfold opStep
    rw [if_pos (by rfl)]
    go_simp
    exact hK.out _ _ (Below.refl _ _) rfl _ rfl
  case c_2 =>
    intro wq hbw st  K hK
    simp only [Act.put, List.setIfInBounds_toArray, List.set_cons_zero, List.set_cons_succ] at hK ⊢
    unfold opStep
    rw [if_pos (by rfl)]
    go_simp
    exact hK.out _ _ (Below.refl _ _) rfl _ rfl
  case c_3 =>
    intro wq hbw st  K hK
    simp only [Act.put, List.setIfInBounds_toArray, List.set_cons_zero, List.set_cons_succ] at hK ⊢
    unfold opStep
    rw [if_pos (by rfl)]
    have d0 : wq.cell? ⟨n, 2, none⟩ = some (.map (some b)) := (HB.out.2.1.box.on hbw).cell 2
    go_simp
    exact hK.out _ _ (Below.refl _ _) rfl _ rfl
  case c_4 =>
    intro wq hbw st  K hK
    simp only [Act.put, List.setIfInBounds_toArray, List.set_cons_zero, List.set_cons_succ] at hK ⊢
    unfold opStep
    rw [if_pos (by rfl)]
    go_simp
    exact hK.out _ _ (Below.refl _ _) rfl _ rfl
  case c_5 =>
    intro wq hbw st  K hK
    simp only [Act.put, List.setIfInBounds_toArray, List.set_cons_zero, List.set_cons_succ] at hK ⊢
    unfold opStep
    rw [if_pos (by rfl)]
    go_simp
    exact hK.out _ _ (Below.refl _ _) rfl _ rfl
  case c_6 =>
    intro wq hbw st  K hK
    simp only [Act.put, List.setIfInBounds_toArray, List.set_cons_zero, List.set_cons_succ] at hK ⊢
    unfold opStep
    rw [if_pos (by rfl)]
    go_simp
    exact hK.out _ _ (Below.refl _ _) rfl _ rfl
  case c_7 =>
    intro wq hbw st  K hK
    simp only [Act.put, List.setIfInBounds_toArray, List.set_cons_zero, List.set_cons_succ] at hK ⊢
    unfold opStep
    rw [if_pos (by rfl)]
    have d0 : wq.cell? ⟨n, 1, none⟩ = some (.int .i64 (s.last + 1)) := (HB.out.2.1.box.on hbw).cell 1
    go_simp
    exact hK.out _ _ (Below.refl _ _) rfl _ rfl
  case c_8 =>
    intro wq hbw st  K hK
    simp only [Act.put, List.setIfInBounds_toArray, List.set_cons_zero, List.set_cons_succ] at hK ⊢
    unfold opStep
    rw [if_pos (by rfl)]
    refine wp_load_mid 39 (.tmp 3) (by rfl) w.heap.size 0 (by rfl) cs _ (Blk.range (HB.out.1.on hbw)) Try.underlying39 (by rfl) (by rw [HLEN.out]; kernel_rfl) ?_
    exact hK.out _ _ (Below.refl _ _) rfl _ rfl
  case c_9 =>
    intro wq hbw st  K hK
    simp only [Act.put, List.setIfInBounds_toArray, List.set_cons_zero, List.set_cons_succ] at hK ⊢
    unfold opStep
    rw [if_pos (by rfl)]
    go_simp
    refine (message_any m cs wq (HM1.out.on hbw)).mono ?_
    rintro e wz ⟨cs', rfl, hbz, hcs⟩
    go_simp
    exact hK.out _ _ hbz ⟨cs', rfl, hcs.mono fun k hk _ => Nat.le_trans hbw.size hk⟩ _ rfl
  case c_fin =>
    intro wq hbw
    intro x9 h9
    try simp only [FinAll]
    simp only [List.drop_succ_cons, List.drop_zero]
    simp only [Act.put, List.setIfInBounds_toArray, List.set_cons_zero, List.set_cons_succ]
    obtain ⟨cs', rfl, hcs⟩ := h9
    have HN2 := Lib.hid (HB.out.2.1.on hbw)
    have HCS := Lib.hid hcs
    have HK := Lib.hid (HB.out.2.2.trans (Kept.of hbw))
    have HG := Lib.hid (Nat.le_trans HS.out hbw.size)
    clear hcs hbw
    obtain ⟨M, hM1, hM2⟩ := HN2.out.way
    have HM2 := Lib.hid hM2
    have HI : Hid (I64 (s.last + 1)) := Lib.hid ⟨by omega, by omega⟩
    have HMN : Hid ((M (s.last + 1)).isSome = false) := Lib.hid (by rw [(hM2 _ HI.out).1 HNO.out]; rfl)
    clear hM2
    refine wpList_mapv_put rfl 72 (.tmp 15) (.tmp 19) (.tmp 21) rfl Try.underlying72 rfl hM1 (by have := HC.out; unfold maxLen; exact Nat.lt_trans this (by decide)) rfl HI.out rfl ?_
    intro w2 hw2 hk2
    rw [HMN.out] at hw2
    have HN3 := Lib.hid (HN2.out.putm hk2 HM2.out hw2 (HCS.out.mono fun k hk _ => ⟨HP.out k (Nat.le_trans HS.out hk), by have := HZ.out; omega, by have := HB.out.2.1.blt; omega⟩))
    have HK3 := Lib.hid ((HK.out.mono (S' := fun k => k = n ∨ k = b) fun k _ h => .inl h).trans (hk2.mono fun k _ h => .inr h))
    have d1 : w2.cell? ⟨n, 1, none⟩ = some (.int .i64 (s.last + 1)) := HN3.out.box.cell 1
    clear hw2 hk2 hM1
    go_wp2
    exact HF.out _ _ rfl HN3.out HK3.out
end Go.Proofs.Ytmcdmcnbnnfhnaa
