/-
  Chapter 39: the record of a configuration: recordOf.
-/
import Derived.Test.YtahpecbcpgjinaaCf
import Derived.Deep.MidRow
namespace Go.Proofs.Ytahpecbcpgjinaa
open Go.RowKit

/-- Block g is just the cells cs, none frozen. -/
def Blk (w : World) (g : Nat) (t : TypeId) (cs : Array Value) : Prop := w.heap[g]? = some (.cells cs t (0, 0))
section
variable {w w' : World} {g : Nat} {t : TypeId} {cs : Array Value}
theorem Blk.lt (h : Blk w g t cs) : g < w.heap.size := by
  rcases Nat.lt_or_ge g w.heap.size with hlt | hge
  · exact hlt
  · unfold Blk at h; rw [Array.getElem?_eq_none hge] at h; cases h
theorem Blk.cell (h : Blk w g t cs) (i : Nat) : w.cell? ⟨g, i, none⟩ = cs[i]? := cell_of_row w g i cs t (0, 0) h
theorem Blk.frozen (h : Blk w g t cs) (i : Nat) : w.frozen? ⟨g, i, none⟩ = false := by
  unfold Blk at h
  simp [World.frozen?, h]
theorem Blk.new (w : World) (t : TypeId) (cs : Array Value) : Blk (w.alloc (.cells cs t)) w.heap.size t cs := heap_alloc_new w _
theorem Blk.drewN (h : Blk w g t cs) (n : Nat) : Blk (w.drewN n) g t cs := h
theorem Blk.alloc (h : Blk w g t cs) (o : Obj) : Blk (w.alloc o) g t cs := (Below.heap_alloc w o g h.lt).trans h
theorem Blk.set_ (h : Blk w g t cs) (i : Nat) (u : Value) : Blk (w.setCell ⟨g, i, none⟩ u) g t (cs.setIfInBounds i u) := by
  unfold Blk at h ⊢
  simp [World.setCell, Array.getElem?_modify, h]
theorem Blk.far (h : Blk w g t cs) {p : Addr} (hp : g ≠ p.block) (u : Value) : Blk (w.setCell p u) g t cs := (Below.heap_setCell w p u g hp).trans h
theorem Blk.below {B : Nat} (h : Blk w g t cs) (hb : Below B w w') (hg : g < B) : Blk w' g t cs := (hb.block g hg).trans h
theorem Blk.on (h : Blk w g t cs) (hb : Below w.heap.size w w') : Blk w' g t cs := h.below hb h.lt
theorem Blk.range (h : Blk w g t cs) : w.rangeAt g 0 cs.toList := fun j v hv => by
  rw [Nat.zero_add, h.cell, ← Array.getElem?_toList]; exact hv
theorem Blk.load {P : Program} (h : Blk w g t cs) {n : Nat} (hn : cs.size = n) : (loadCellsFrom ⟨g, 0, none⟩ 0 n #[]).run P w = .ok cs w := by
  subst hn
  have := run_loadCells_list (P := P) w ⟨g, 0, none⟩ cs.toList (fun j v hv => by
    rw [Addr.add_mid]; exact h.range j v hv)
  simpa [loadCells] using this
theorem Blk.store {P : Program} (h : Blk w g t cs) {n : Array Value} (hn : n.size = cs.size) (h1 : ∀ v ∈ n.toList, v.oneCell' = true) :
    (storeCells ⟨g, 0, none⟩ n.toList 0).run P w = .ok () (w.setRow g n) := by
  have := run_storeCells_from (P := P) g t n.toList 0 cs w h (by simp; omega) h1
  simpa using this
theorem Blk.setRow (h : Blk w g t cs) (n : Array Value) : Blk (w.setRow g n) g t n := by
  unfold Blk at h ⊢
  simp [World.setRow, Array.getElem?_modify, h]
theorem below_setRow {B : Nat} {w0 w : World} {g : Nat} {n : Array Value} (h : Below B w0 w) (hg : B ≤ g) : Below B w0 (w.setRow g n) :=
  ⟨h.os, h.tape, h.output, by simpa [World.setRow] using h.size, fun i hi => by
    rw [← h.block i hi]
    simp only [World.setRow, Array.getElem?_modify]
    rw [if_neg (by omega)]⟩
end

def addC (R : Int) (L : List Cmd) (r : Int) : Bool := decide (∃ c ∈ L, confB R c = true ∧ kindC c = 2 ∧ repC c = r)
def remC (R : Int) (L : List Cmd) (r : Int) : Bool := decide (∃ c ∈ L, confB R c = true ∧ kindC c = 3 ∧ repC c = r)
def recF (R : Int) (L : List Cmd) (i : Nat) : Bool := if i < 12 then addC R L i else remC R L ((i : Int) - 12)
def recA (R : Int) (L : List Cmd) : Array Value := Array.ofFn fun (i : Fin 24) => Value.bool (recF R L i)
theorem recA_size (R : Int) (L : List Cmd) : (recA R L).size = 24 := by simp [recA]
theorem recA_at (R : Int) (L : List Cmd) (i : Nat) (h : i < 24) : (recA R L)[i]? = some (.bool (recF R L i)) := by simp [recA, h]
theorem recA_nil (R : Int) : recA R [] = #[.bool false, .bool false, .bool false, .bool false, .bool false, .bool false, .bool false, .bool false, .bool false, .bool false, .bool false, .bool false, .bool false, .bool false, .bool false, .bool false, .bool false, .bool false, .bool false, .bool false, .bool false, .bool false, .bool false, .bool false] := by
  have h : ∀ i, recF R [] i = false := fun i => by unfold recF addC remC; simp
  unfold recA
  simp only [h]
  rfl
theorem addC_snoc (R : Int) (L : List Cmd) (c : Cmd) (r : Int) : addC R (L ++ [c]) r = (addC R L r || decide (confB R c = true ∧ kindC c = 2 ∧ repC c = r)) := by
  unfold addC
  rw [Bool.eq_iff_iff]
  simp only [List.mem_append, List.mem_singleton, Bool.or_eq_true, decide_eq_true_eq]
  constructor
  · rintro ⟨d, h | rfl, h2⟩
    · exact .inl ⟨d, h, h2⟩
    · exact .inr h2
  · rintro (⟨d, h, h2⟩ | h)
    · exact ⟨d, .inl h, h2⟩
    · exact ⟨c, .inr rfl, h⟩
theorem remC_snoc (R : Int) (L : List Cmd) (c : Cmd) (r : Int) : remC R (L ++ [c]) r = (remC R L r || decide (confB R c = true ∧ kindC c = 3 ∧ repC c = r)) := by
  unfold remC
  rw [Bool.eq_iff_iff]
  simp only [List.mem_append, List.mem_singleton, Bool.or_eq_true, decide_eq_true_eq]
  constructor
  · rintro ⟨d, h | rfl, h2⟩
    · exact .inl ⟨d, h, h2⟩
    · exact .inr h2
  · rintro (⟨d, h, h2⟩ | h)
    · exact ⟨d, .inl h, h2⟩
    · exact ⟨c, .inr rfl, h⟩
theorem recA_skip {R : Int} {L : List Cmd} {c : Cmd} (h : confB R c = false) : recA R (L ++ [c]) = recA R L := by
  unfold recA
  congr 1
  funext i
  unfold recF
  rw [addC_snoc, remC_snoc]
  simp [h]
theorem recA_add {R : Int} {L : List Cmd} {c : Cmd} (h : confB R c = true) (hk : kindC c = 2) {n : Nat} (hn : repC c = n) (h12 : n < 12) : (recA R L).setIfInBounds n (.bool true) = recA R (L ++ [c]) := by
  apply Array.ext_getElem?
  intro i
  rw [Array.getElem?_setIfInBounds, recA_size]
  by_cases hi : i < 24
  · rw [recA_at _ _ _ hi, recA_at _ _ _ hi]
    by_cases e : n = i
    · subst e
      rw [if_pos rfl, if_pos hi]
      unfold recF
      rw [if_pos h12, addC_snoc]
      simp [h, hk, hn]
    · rw [if_neg e]
      unfold recF
      rw [addC_snoc, remC_snoc]
      have : ¬ ((n : Int) = i) := by omega
      simp [h, hk, hn, this]
  · have : ¬ n = i := by omega
    rw [if_neg this, Array.getElem?_eq_none (by rw [recA_size]; omega), Array.getElem?_eq_none (by rw [recA_size]; omega)]
theorem recA_rem {R : Int} {L : List Cmd} {c : Cmd} (h : confB R c = true) (hk : kindC c = 3) {n : Nat} (hn : repC c = n) (h12 : n < 12) : (recA R L).setIfInBounds (12 + n) (.bool true) = recA R (L ++ [c]) := by
  apply Array.ext_getElem?
  intro i
  rw [Array.getElem?_setIfInBounds, recA_size]
  by_cases hi : i < 24
  · rw [recA_at _ _ _ hi, recA_at _ _ _ hi]
    by_cases e : 12 + n = i
    · subst e
      rw [if_pos rfl, if_pos hi]
      unfold recF
      rw [if_neg (by omega), remC_snoc]
      have e1 : ((12 + n : Nat) : Int) - 12 = n := by omega
      rw [e1]
      simp [h, hk, hn]
    · rw [if_neg e]
      unfold recF
      rw [addC_snoc, remC_snoc]
      by_cases h2 : i < 12
      · simp [h, hk, hn, h2]
      · have : ¬ ((n : Int) = (i : Int) - 12) := by omega
        simp [h, hk, hn, h2, this]
  · have : ¬ 12 + n = i := by omega
    rw [if_neg this, Array.getElem?_eq_none (by rw [recA_size]; omega), Array.getElem?_eq_none (by rw [recA_size]; omega)]

theorem results_cell {P : Program} {fn : Func} {a : Tmp} {t : TypeId} {tmps : Array Value} {b o : Nat} {v : Value} {w : World} (h : fn.results = #[.cell a t]) (ha : tmps.getD a undef = .pointer (some ⟨b, o, none⟩)) (hl : (loadVar t ⟨b, o, none⟩).run P w = .ok v w) :
    (results fn tmps).run P w = .ok v w := by
  rw [Array.getD_eq_getD_getElem?] at ha
  simp [results, h, ha, asAddr, hl]
theorem below_setCells {B : Nat} {w0 : World} {g : Nat} (hg : B ≤ g) : ∀ (vs : List Value) (o : Nat) (w : World), Below B w0 w → Below B w0 (w.setCells g o vs)
  | [], _, _, h => h
  | v :: r, o, _, h => below_setCells hg r (o + 1) _ (h.setCell (p := ⟨g, o, none⟩) hg v)

def RecMade (w : World) (R : Int) (L : List Cmd) (e : Ending) (w' : World) : Prop := e = .returned (.agg (recA R L)) ∧ Below w.heap.size w w'

set_option maxRecDepth 100000 in
set_option maxHeartbeats 1000000 in
theorem recordOf_any (g v : Value) (M R : Int) (F : List Int) (L : List Cmd) (w : World) (hg : Gen w g M R F) (hr : ReadsC w v L) (hR : R ≤ 12) :
    Calls Try.prog 38 #[g, v] w (RecMade w R L) := by
  have hg0 := hg
  obtain ⟨vF, cl, vA, vO, rfl, hF, ⟨a2, n2, k2, rfl⟩, ⟨a3, n3, k3, rfl⟩⟩ := hg
  obtain ⟨a1, n1, k1, rfl⟩ := Slc.of_reads hF
  have HG := Lib.hid (And.intro hg0 hr)
  obtain ⟨ao, cap, rfl, hl, hm, hn, hx⟩ := hr
  unfold maxLen at hm
  clear hg0 hF hn hx
  unfold gen at *
  go_enter Try.func38, Try.ntmps38
  go_wp2
  go_loopg [10] L.length (fun m i wr => ∃ k : Nat, m + k = L.length ∧ i = .int .i64 k ∧ Blk wr w.heap.size 25 #[.int .i64 M, .int .i64 R, .slice a1 n1 k1, .int .i64 cl, .slice a2 n2 k2, .slice a3 n3 k3] ∧ Blk wr (w.heap.size + 1) 58 (recA R []) ∧ Blk wr (w.heap.size + 1 + 1) 58 (recA R (L.take k)) ∧ Below w.heap.size w wr)
  case atStart =>
    refine ⟨0, by omega, rfl, ((Blk.new _ _ _).alloc _).alloc _, ?_, ?_, (((Below.refl _ _).alloc (Nat.le_refl _) _).alloc (by simp) _).alloc (by simp; omega) _⟩
    · rw [recA_nil]; have h := (Blk.new (w.alloc (.cells #[.int .i64 M, .int .i64 R, .slice a1 n1 k1, .int .i64 cl, .slice a2 n2 k2, .slice a3 n3 k3] 25)) 58 (recA R [])).alloc (.cells (recA R []) 58); rw [recA_nil] at h; simpa using h
    · rw [List.take_zero, recA_nil]
      have h := Blk.new ((w.alloc (.cells #[.int .i64 M, .int .i64 R, .slice a1 n1 k1, .int .i64 cl, .slice a2 n2 k2, .slice a3 n3 k3] 25)).alloc (.cells (recA R []) 58)) 58 (recA R [])
      rw [recA_nil] at h; simpa using h
  case round =>
    obtain ⟨k, hmk, rfl, hG, hZ, hR1, hbel⟩ := hrel
    have HM := Lib.hid hmk
    have hk : k ≤ L.length := by omega
    have HB := Lib.hid (And.intro hG (And.intro hZ (And.intro hR1 hbel)))
    have hsz := hR1.lt
    have hs0 : w.heap.size < wr.heap.size := by omega
    have hs1 : w.heap.size + 1 < wr.heap.size := by omega
    clear hmk
    by_cases hlt : k < L.length
    · obtain ⟨b, off, cap', vw, vt, hv, hl1, hm1, hb, c0, c1, c2, c3, c4, c5, r1, r2⟩ := (HG.out.2.on hbel).at_ hlt
      injection hv with e1 e2 e3
      subst e1
      have g0 := hG.cell 0
      have g1 := hG.cell 1
      have g2 := hG.cell 2
      have g3 := hG.cell 3
      have g4 := hG.cell 4
      have g5 := hG.cell 5
      have hcmd : CmdAt wr (cmdV L[k] vw vt) L[k] := ⟨vw, vt, rfl, r1, r2⟩
      obtain ⟨a4, n4, k4, rfl⟩ := Slc.of_readsK r1
      obtain ⟨a5, n5, k5, rfl⟩ := Slc.of_reads r2
      have HC := Lib.hid hcmd
      have hskip := @recA_skip R (L.take k) L[k]
      have hadd := @recA_add R (L.take k) L[k]
      have hrem := @recA_rem R (L.take k) L[k]
      rw [← List.take_succ_eq_append_getElem hlt] at hskip hadd hrem
      generalize hcd : L[k] = c at *
      have HS := Lib.hid (And.intro hskip (And.intro hadd hrem))
      clear hG hZ hR1 hbel hcmd r1 r2 hskip hadd hrem hcd e2 e3
      have hb0 : Below w.heap.size w (wr.alloc (.cells #[.int .i64 c.1, .int .i64 c.2.1, .int .i64 (kindC c), .slice a4 n4 k4, .int .i64 (repC c), .slice a5 n5 k5] 52)) := HB.out.2.2.2.alloc HB.out.2.2.2.size _
      have HW := Lib.hid hb0
      clear hb0
      go_wp2_with fail
      refine (configures_any _ _ M R F c _ (HG.out.1.on HW.out) (HC.out.on ((Below.refl _ _).alloc (Nat.le_refl _) _))).mono ?_
      rintro e w1 ⟨rfl, hb1⟩
      have hz1 := hb1.size
      simp at hz1
      have H1 := Lib.hid (And.intro (HW.out.trans (hb1.mono HW.out.size)) (And.intro ((HB.out.1.alloc _).on hb1) (And.intro ((HB.out.2.1.alloc _).on hb1) (And.intro ((HB.out.2.2.1.alloc _).on hb1) ((Blk.new wr _ _).on hb1)))))
      have d2 := H1.out.2.2.2.2.cell 2
      have d4 := H1.out.2.2.2.2.cell 4
      clear hb1
      by_cases hcf : confB R c = true
      · obtain ⟨hkd, h0, h1⟩ := of_decide_eq_true hcf
        obtain ⟨n, hn⟩ : ∃ n : Nat, repC c = n := ⟨(repC c).toNat, by omega⟩
        have hn1 : n < 12 := by omega
        have hn2 : (n : Int) < 12 := by omega
        by_cases hk2 : kindC c = 2
        · have HE := Lib.hid (HS.out.2.1 hcf hk2 hn hn1)
          have s1 : w1.cell? ⟨w.heap.size + 1 + 1, n, none⟩ = some (.bool (recF R (L.take k) n)) := by rw [H1.out.2.2.2.1.cell, recA_at _ _ _ (by omega)]
          have s2 := H1.out.2.2.2.1.frozen n
          rw [hcf]
          rw [hk2] at d2 
          rw [hn] at d4
          clear hkd h0 h1 hcf hk2 hn
          go_wp2
          go_roundg (L.length - (k + 1))
          case measure => have := HM.out; omega
          case rel => exact ⟨k + 1, by omega, by go_num, H1.out.2.1.far (by simp; omega) _, H1.out.2.2.1.far (by simp) _, by rw [← HE.out]; exact H1.out.2.2.2.1.set_ _ _, H1.out.1.setCell (by simp; omega) _⟩
        · have hk3 : kindC c = 3 := by omega
          have HE := Lib.hid (HS.out.2.2 hcf hk3 hn hn1)
          have s1 : w1.cell? ⟨w.heap.size + 1 + 1, 12 + n, none⟩ = some (.bool (recF R (L.take k) (12 + n))) := by rw [H1.out.2.2.2.1.cell, recA_at _ _ _ (by omega)]
          have s2 := H1.out.2.2.2.1.frozen (12 + n)
          rw [hcf]
          rw [hk3] at d2
          rw [hn] at d4
          clear hkd h0 h1 hcf hk2 hk3 hn
          go_wp2
          go_roundg (L.length - (k + 1))
          case measure => have := HM.out; omega
          case rel => exact ⟨k + 1, by omega, by go_num, H1.out.2.1.far (by simp; omega) _, H1.out.2.2.1.far (by simp) _, by rw [← HE.out]; exact H1.out.2.2.2.1.set_ _ _, H1.out.1.setCell (by simp; omega) _⟩
      · have hcf := Bool.eq_false_iff.2 hcf
        have HE := Lib.hid (HS.out.1 hcf)
        rw [hcf]
        clear hcf
        go_wp2
        go_roundg (L.length - (k + 1))
        case measure => have := HM.out; omega
        case rel => exact ⟨k + 1, by omega, by go_num, H1.out.2.1, H1.out.2.2.1, by rw [HE.out]; exact H1.out.2.2.2.1, H1.out.1⟩
    · have HV : Hid (recA R (L.take k) = recA R L) := Lib.hid (by rw [List.take_of_length_le (by omega)])
      have hrg := HB.out.2.2.1.range
      have hth : wr.there (w.heap.size + 1) 0 (recA R (L.take k)).size := fun j hj => by
        rw [recA_size] at hj
        rw [Nat.zero_add]
        exact ⟨by rw [HB.out.2.1.cell, recA_at _ _ _ hj]; rfl, HB.out.2.1.frozen j⟩
      have h1c : (recA R (L.take k)).all (·.oneCell') = true := by
        refine Array.all_eq_true_iff_forall_mem.2 fun v hv => ?_
        rw [recA, Array.mem_ofFn] at hv
        obtain ⟨i, rfl⟩ := hv
        rfl
      have hi1 : (Try.prog.info? 58).map (·.size) = some (recA R (L.take k)).toList.length := by rw [Array.length_toList, recA_size]; kernel_rfl
      have hi2 : (Try.prog.info? 58).map (·.size) = some (recA R (L.take k)).size := by rw [recA_size]; kernel_rfl
      have HF := Lib.hid (And.intro hrg (And.intro hth (And.intro h1c (And.intro hi1 hi2))))
      clear hrg hth h1c hi1 hi2
      generalize recA R (L.take k) = rc at *
      go_wp2_with (first | (refine wpList_load_mid (by rfl) 58 (.tmp 5) (by rfl) (w.heap.size + 1 + 1) 0 (by rfl) rc.toList _ HF.out.1 Try.underlying58 (by rfl) HF.out.2.2.2.1 ?_) | (refine wpList_store_mid (by rfl) 58 (.tmp 4) (.tmp 29) (by rfl) (w.heap.size + 1) 0 rc (by rfl) (by rfl) HF.out.2.1 HF.out.2.2.2.2 HF.out.2.2.1 ?_))
      refine bodyPost_ret (v := .agg rc) (results_cell rfl rfl ?_) rfl ⟨by rw [← HV.out], below_setCells (by omega) _ _ _ HB.out.2.2.2⟩
      have := run_loadVar_mid (P := Try.prog) (wr.setCells (w.heap.size + 1) 0 rc.toList) (w.heap.size + 1) 0 58 rc.toList _ (World.rangeAt_setCells_same _ _ _ _ (fun j hj => HF.out.2.1 j (by simpa using hj))) Try.underlying58 rfl HF.out.2.2.2.1
      simpa using this
end Go.Proofs.Ytahpecbcpgjinaa
