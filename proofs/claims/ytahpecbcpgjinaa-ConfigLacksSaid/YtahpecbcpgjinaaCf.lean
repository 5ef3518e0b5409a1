/-
  Chapter 39: how a command and a genesis read; configures, usable, orFirst.
-/
import Derived.Test.YtahpecbcpgjinaaCe
namespace Go.Proofs.Ytahpecbcpgjinaa
open Go.RowKit

def vb (c : UInt8) : Value := .int .u8 (c.toNat : Int)

/-- A slice whose elements have K cells each. -/
def ReadsK {α : Type} (K : Nat) (E : World → List Value → α → Prop) (w : World) (v : Value) (xs : List α) : Prop :=
  ∃ ao cap, v = .slice ao xs.length cap ∧ xs.length ≤ cap ∧ cap ≤ maxLen ∧ (ao = none → cap = 0) ∧
    (xs ≠ [] → ∃ b off, ao = some ⟨b, off, none⟩ ∧ b < w.heap.size ∧ ∀ j (h : j < xs.length), ∃ cs : List Value, cs.length = K ∧ (∀ i u, cs[i]? = some u → w.cell? ⟨b, off + j * K + i, none⟩ = some u) ∧ E w cs xs[j])

/-- What holds of an element holds on. -/
def Keeps {α : Type} (E : World → List Value → α → Prop) : Prop := ∀ w w' cs x, Below w.heap.size w w' → E w cs x → E w' cs x

section
variable {α : Type} {K : Nat} {E : World → List Value → α → Prop} {w w' : World} {v : Value} {xs : List α}
theorem ReadsK.nil (w : World) : ReadsK K E w (.slice none 0 0) ([] : List α) := ⟨none, 0, rfl, Nat.le_refl _, by simp [maxLen], fun _ => rfl, fun h => absurd rfl h⟩
theorem ReadsK.len (h : ReadsK K E w v xs) : xs.length ≤ maxLen := by
  obtain ⟨ao, cap, rfl, hl, hm, _⟩ := h; omega
theorem ReadsK.keep (hE : Keeps E) (h : ReadsK K E w v xs) (hb : Below w.heap.size w w') : ReadsK K E w' v xs := by
  obtain ⟨ao, cap, rfl, hl, hm, hn, hx⟩ := h
  refine ⟨ao, cap, rfl, hl, hm, hn, fun he => ?_⟩
  obtain ⟨b, off, rfl, hlt, hc⟩ := hx he
  refine ⟨b, off, rfl, Nat.lt_of_lt_of_le hlt hb.size, fun j hj => ?_⟩
  obtain ⟨cs, h1, h2, h3⟩ := hc j hj
  exact ⟨cs, h1, fun i u hu => (hb.cell (p := ⟨b, off + j * K + i, none⟩) hlt).trans (h2 i u hu), hE _ _ _ _ hb h3⟩
end

def WriteE (w : World) (cs : List Value) (x : Str × Str) : Prop := ∃ vd, cs = [vs x.1, vd] ∧ Reads vb w vd x.2
theorem keepsWrite : Keeps WriteE := fun _ _ _ _ hb ⟨vd, h, hr⟩ => ⟨vd, h, hr.keep hb⟩
/-- A command's six cells. -/
def CmdE (w : World) (cs : List Value) (c : Cmd) : Prop :=
  ∃ vw vt, cs = [.int .i64 c.1, .int .i64 c.2.1, .int .i64 (kindC c), vw, .int .i64 (repC c), vt] ∧ ReadsK 2 WriteE w vw c.2.2.2.1 ∧ Reads vb w vt c.2.2.2.2.2
theorem keepsCmd : Keeps CmdE := fun _ _ _ _ hb ⟨vw, vt, h, h1, h2⟩ => ⟨vw, vt, h, h1.keep keepsWrite hb, h2.keep hb⟩
/-- A list of commands. -/
abbrev ReadsC (w : World) (v : Value) (xs : List Cmd) : Prop := ReadsK 6 CmdE w v xs
theorem ReadsC.on {w w' : World} {v : Value} {xs : List Cmd} (h : ReadsC w v xs) (hb : Below w.heap.size w w') : ReadsC w' v xs := ReadsK.keep keepsCmd h hb

/-- The element k of a list of commands: its cells, one by one. -/
theorem ReadsC.at_ {w : World} {v : Value} {xs : List Cmd} (h : ReadsC w v xs) {k : Nat} (hk : k < xs.length) : ∃ b off cap vw vt, v = .slice (some ⟨b, off, none⟩) xs.length cap ∧ xs.length ≤ cap ∧ cap ≤ maxLen ∧ b < w.heap.size ∧
    w.cell? ⟨b, off + k * 6, none⟩ = some (.int .i64 xs[k].1) ∧ w.cell? ⟨b, off + k * 6 + 1, none⟩ = some (.int .i64 xs[k].2.1) ∧ w.cell? ⟨b, off + k * 6 + 2, none⟩ = some (.int .i64 (kindC xs[k])) ∧
    w.cell? ⟨b, off + k * 6 + 3, none⟩ = some vw ∧ w.cell? ⟨b, off + k * 6 + 4, none⟩ = some (.int .i64 (repC xs[k])) ∧ w.cell? ⟨b, off + k * 6 + 5, none⟩ = some vt ∧
    ReadsK 2 WriteE w vw xs[k].2.2.2.1 ∧ Reads vb w vt xs[k].2.2.2.2.2 := by
  obtain ⟨ao, cap, rfl, hl, hm, hn, hx⟩ := h
  obtain ⟨b, off, rfl, hb, hc⟩ := hx (by intro e; subst e; simp at hk)
  obtain ⟨cs, _, hcell, vw, vt, rfl, h1, h2⟩ := hc k hk
  exact ⟨b, off, cap, vw, vt, rfl, hl, hm, hb, hcell 0 _ rfl, hcell 1 _ rfl, hcell 2 _ rfl, hcell 3 _ rfl, hcell 4 _ rfl, hcell 5 _ rfl, h1, h2⟩

/-- A genesis by value. -/
def gen (M R : Int) (vF : Value) (cl : Int) (vA vO : Value) : Value := .agg #[.int .i64 M, .int .i64 R, vF, .int .i64 cl, vA, vO]
/-- A command by value. -/
def cmdV (c : Cmd) (vw vt : Value) : Value := .agg #[.int .i64 c.1, .int .i64 c.2.1, .int .i64 (kindC c), vw, .int .i64 (repC c), vt]

theorem below_two (w : World) (o1 o2 : Obj) : Below w.heap.size w ((w.alloc o1).alloc o2) := ((Below.refl _ _).alloc (Nat.le_refl _) _).alloc (by simp) _

def Slc (v : Value) : Prop := ∃ ao n k, v = .slice ao n k
theorem Slc.of_reads {α : Type} {enc : α → Value} {w : World} {v : Value} {xs : List α} (h : Reads enc w v xs) : Slc v := by obtain ⟨ao, cap, rfl, _⟩ := h; exact ⟨_, _, _, rfl⟩
theorem Slc.of_readsK {α : Type} {K : Nat} {E : World → List Value → α → Prop} {w : World} {v : Value} {xs : List α} (h : ReadsK K E w v xs) : Slc v := by obtain ⟨ao, cap, rfl, _⟩ := h; exact ⟨_, _, _, rfl⟩

/-- A genesis that came in: mode, replicas, founders. -/
def Gen (w : World) (g : Value) (M R : Int) (F : List Int) : Prop := ∃ vF cl vA vO, g = gen M R vF cl vA vO ∧ Reads vi w vF F ∧ Slc vA ∧ Slc vO
theorem Gen.on {w w' : World} {g : Value} {M R : Int} {F : List Int} (h : Gen w g M R F) (hb : Below w.heap.size w w') : Gen w' g M R F := by
  obtain ⟨vF, cl, vA, vO, rfl, h1, h2, h3⟩ := h; exact ⟨vF, cl, vA, vO, rfl, h1.keep hb, h2, h3⟩
/-- A command by value, as it reads. -/
def CmdAt (w : World) (v : Value) (c : Cmd) : Prop := ∃ vw vt, v = cmdV c vw vt ∧ ReadsK 2 WriteE w vw c.2.2.2.1 ∧ Reads vb w vt c.2.2.2.2.2
theorem CmdAt.on {w w' : World} {v : Value} {c : Cmd} (h : CmdAt w v c) (hb : Below w.heap.size w w') : CmdAt w' v c := by
  obtain ⟨vw, vt, rfl, h1, h2⟩ := h; exact ⟨vw, vt, rfl, h1.keep keepsWrite hb, h2.keep hb⟩

set_option maxHeartbeats 1000000 in
theorem configures_any (g v : Value) (M R : Int) (F : List Int) (c : Cmd) (w : World) (hg : Gen w g M R F) (hc : CmdAt w v c) :
    Calls Try.prog 56 #[g, v] w (BoolMade w (confB R c)) := by
  obtain ⟨vF, cl, vA, vO, rfl, h1, ⟨a2, n2, k2, rfl⟩, ⟨a3, n3, k3, rfl⟩⟩ := hg
  obtain ⟨vw, vt, rfl, h2, h3⟩ := hc
  obtain ⟨a1, n1, k1, rfl⟩ := Slc.of_reads h1
  obtain ⟨a4, n4, k4, rfl⟩ := Slc.of_readsK h2
  obtain ⟨a5, n5, k5, rfl⟩ := Slc.of_reads h3
  clear h1 h2 h3
  generalize hv : confB R c = b
  unfold confB at hv
  unfold gen cmdV
  generalize kindC c = kd at *
  generalize repC c = rp at *
  by_cases h1 : kd = 2
  · have e1 := beq_t h1
    by_cases h3 : 0 ≤ rp
    · by_cases h4 : rp < R
      · have HV := Lib.hid (hv.symm.trans (decide_eq_true ⟨.inl h1, h3, h4⟩))
        clear hv h1
        go_enter Try.func56, Try.ntmps56
        go_wp2
        go_ret
        exact ⟨ret_bool HV.out.symm, below_two _ _ _⟩
      · have HV := Lib.hid (hv.symm.trans (decide_eq_false fun h => by omega))
        clear hv h1
        go_enter Try.func56, Try.ntmps56
        go_wp2
        go_ret
        exact ⟨ret_bool HV.out.symm, below_two _ _ _⟩
    · have HV := Lib.hid (hv.symm.trans (decide_eq_false fun h => by omega))
      clear hv h1
      go_enter Try.func56, Try.ntmps56
      go_wp2
      go_ret
      exact ⟨ret_bool HV.out.symm, below_two _ _ _⟩
  · have e1 := beq_f h1
    by_cases h2 : kd = 3
    · have e2 := beq_t h2
      by_cases h3 : 0 ≤ rp
      · by_cases h4 : rp < R
        · have HV := Lib.hid (hv.symm.trans (decide_eq_true ⟨.inr h2, h3, h4⟩))
          clear hv h1 h2
          go_enter Try.func56, Try.ntmps56
          go_wp2
          go_ret
          exact ⟨ret_bool HV.out.symm, below_two _ _ _⟩
        · have HV := Lib.hid (hv.symm.trans (decide_eq_false fun h => by omega))
          clear hv h1 h2
          go_enter Try.func56, Try.ntmps56
          go_wp2
          go_ret
          exact ⟨ret_bool HV.out.symm, below_two _ _ _⟩
      · have HV := Lib.hid (hv.symm.trans (decide_eq_false fun h => by omega))
        clear hv h1 h2
        go_enter Try.func56, Try.ntmps56
        go_wp2
        go_ret
        exact ⟨ret_bool HV.out.symm, below_two _ _ _⟩
    · have e2 := beq_f h2
      have HV := Lib.hid (hv.symm.trans (decide_eq_false fun h => by omega))
      clear hv h1 h2
      go_enter Try.func56, Try.ntmps56
      go_wp2
      go_ret
      exact ⟨ret_bool HV.out.symm, below_two _ _ _⟩

theorem usable_split {M R : Int} {F : List Int} (hM : M = 1 ∨ M = 2) (h1 : 1 ≤ R) (h2 : R ≤ 12) (hF : F ≠ []) : usableB M R F = goodL R F := by
  unfold usableB goodL
  rw [Bool.eq_iff_iff, decide_eq_true_eq, decide_eq_true_eq]
  exact ⟨fun h => h.2.2.2, fun h => ⟨hM, ⟨h1, h2⟩, hF, h⟩⟩
theorem usable_no {M R : Int} {F : List Int} (h : ¬ (M = 1 ∨ M = 2) ∨ R < 1 ∨ 12 < R ∨ F = []) : usableB M R F = false := by
  unfold usableB
  refine decide_eq_false fun ⟨a, b, c, _⟩ => ?_
  rcases h with h | h | h | h
  · exact h a
  · omega
  · omega
  · exact c h

set_option maxHeartbeats 1000000 in
theorem usable_any (g : Value) (M R : Int) (F : List Int) (w : World) (hg : Gen w g M R F) :
    Calls Try.prog 37 #[g] w (BoolMade w (usableB M R F)) := by
  obtain ⟨vF, cl, vA, vO, rfl, hr, ⟨a2, n2, k2, rfl⟩, ⟨a3, n3, k3, rfl⟩⟩ := hg
  obtain ⟨ao, cap, rfl, hl, hm, hn, hx⟩ := hr
  unfold maxLen at hm
  generalize hv : usableB M R F = res
  unfold gen
  by_cases hM : M = 1 ∨ M = 2
  · by_cases h1 : 1 ≤ R
    · by_cases h2 : R ≤ 12
      · by_cases hF : F = []
        · have HV := Lib.hid (hv.symm.trans (usable_no (.inr (.inr (.inr hF)))))
          have h0 : ((F.length : Int) == 0) = true := by rw [hF]; rfl
          have h0' : F.length = 0 := by rw [hF]; rfl
          rw [h0']
          clear hv hF hx hn h0 h0'
          rcases hM with rfl | rfl
          all_goals
            go_enter Try.func37, Try.ntmps37
            go_wp2
            go_ret
            exact ⟨ret_bool HV.out.symm, (Below.refl _ _).alloc (Nat.le_refl _) _⟩
        · rw [usable_split hM h1 h2 hF] at hv
          have h0 : ((F.length : Int) == 0) = false := by rw [beq_eq_false_iff_ne]; have := List.length_pos_iff.2 hF; omega
          have HV := Lib.hid hv
          have HXX := Lib.hid hx
          clear hv hF hx hn
          rcases hM with rfl | rfl
          all_goals
            go_enter Try.func37, Try.ntmps37
            go_wp2
            go_loopg [3, 33] F.length (fun m l i wr => ∃ (k : Nat) (L : Int), m + k = F.length ∧ i = .int .i64 k ∧ l = .int .i64 L ∧ okTo R F k L ∧ wr = w.alloc (.cells #[.int .i64 _, .int .i64 R, .slice ao F.length cap, .int .i64 cl, .slice a2 n2 k2, .slice a3 n3 k3] 25))
            case atStart => exact ⟨0, -1, by omega, rfl, rfl, okTo_start _ _, rfl⟩
            case round =>
              obtain ⟨k, L, hmk, rfl, rfl, hp, hw⟩ := hrel
              have HP := Lib.hid (And.intro hp hmk)
              have hk : k ≤ F.length := by omega
              clear hp hmk
              subst hw
              by_cases hlt : k < F.length
              · obtain ⟨b, off, rfl, hb, hc⟩ := HXX.out (by intro e; subst e; simp at hlt)
                have hc1 : w.cell? ⟨b, off + k, none⟩ = some (.int .i64 F[k]) := hc k hlt
                have HA := Lib.hid (@okTo_step R F k L HP.out.1 hlt)
                have HB := Lib.hid (@okTo_bad R F k L HP.out.1 hlt)
                clear hc
                generalize F[k] = x at *
                by_cases b1 : x ≤ L
                · go_wp2
                  go_ret
                  exact ⟨ret_bool ((HB.out (.inl b1)).symm.trans HV.out), (Below.refl _ _).alloc (Nat.le_refl _) _⟩
                · by_cases b2 : R ≤ x
                  · go_wp2
                    go_ret
                    exact ⟨ret_bool ((HB.out (.inr b2)).symm.trans HV.out), (Below.refl _ _).alloc (Nat.le_refl _) _⟩
                  · go_wp2
                    go_roundg (F.length - (k + 1))
                    case measure => have := HP.out.2; omega
                    case rel => exact ⟨k + 1, x, by omega, by go_num, rfl, HA.out (by omega) (by omega), rfl⟩
              · go_wp2
                go_ret
                exact ⟨ret_bool ((okTo_all HP.out.1 (by omega)).symm.trans HV.out), (Below.refl _ _).alloc (Nat.le_refl _) _⟩
      · have HV := Lib.hid (hv.symm.trans (usable_no (.inr (.inr (.inl (by omega))))))
        clear hv hx hn
        rcases hM with rfl | rfl
        all_goals
          go_enter Try.func37, Try.ntmps37
          go_wp2
          go_ret
          exact ⟨ret_bool HV.out.symm, (Below.refl _ _).alloc (Nat.le_refl _) _⟩
    · have HV := Lib.hid (hv.symm.trans (usable_no (.inr (.inl (by omega)))))
      clear hv hx hn
      rcases hM with rfl | rfl
      all_goals
        go_enter Try.func37, Try.ntmps37
        go_wp2
        go_ret
        exact ⟨ret_bool HV.out.symm, (Below.refl _ _).alloc (Nat.le_refl _) _⟩
  · have HV := Lib.hid (hv.symm.trans (usable_no (.inl hM)))
    have e1 := bne_t (fun h => hM (.inl h))
    have e2 := bne_t (fun h => hM (.inr h))
    clear hv hx hn hM
    go_enter Try.func37, Try.ntmps37
    go_wp2
    go_ret
    exact ⟨ret_bool HV.out.symm, (Below.refl _ _).alloc (Nat.le_refl _) _⟩

theorem reads_one {w : World} {g : Nat} {x : Int} {t : TypeId} (h : w.heap[g]? = some (.cells #[.int .i64 x] t (0, 0))) : Reads vi w (.slice (some ⟨g, 0, none⟩) 1 1) [x] := by
  refine Reads.at (xs := [x]) (Nat.le_refl _) (by simp [maxLen]) (Array.getElem?_eq_some_iff.1 h).1 fun j hj => ?_
  have h0 : j = 0 := by simp at hj; omega
  subst h0
  rw [cell_of_row w g _ _ t (0, 0) h]; rfl
theorem alloc2_new (w : World) (o1 o2 : Obj) : ((w.alloc o1).alloc o2).heap[w.heap.size + 1]? = some o2 := by have := heap_alloc_new (w.alloc o1) o2; simpa using this

/-- The list, or the first founder. -/
theorem orFirst_any (g v : Value) (M R : Int) (F l : List Int) (w : World) (hg : Gen w g M R F) (hl : Reads vi w v l) (hF : F ≠ []) :
    Calls Try.prog 40 #[g, v] w (MadeI w (orFirst F l)) := by
  obtain ⟨vF, cl, vA, vO, rfl, hr, ⟨a2, n2, k2, rfl⟩, ⟨a3, n3, k3, rfl⟩⟩ := hg
  obtain ⟨b, off, cap, rfl, h1, h2, h3, h4⟩ : ∃ b off cap, vF = .slice (some ⟨b, off, none⟩) F.length cap ∧ F.length ≤ cap ∧ cap ≤ maxLen ∧ b < w.heap.size ∧ w.cell? ⟨b, off, none⟩ = some (.int .i64 (F.headD 0)) := by
    obtain ⟨ao, cap, rfl, hl, hm, hn, hx⟩ := hr
    obtain ⟨b, off, rfl, hb, hc⟩ := hx hF
    refine ⟨b, off, cap, rfl, hl, hm, hb, ?_⟩
    cases F with
    | nil => exact absurd rfl hF
    | cons a F => exact hc 0 (by simp)
  have h5 := List.length_pos_iff.2 hF
  unfold maxLen at h2
  have HL := Lib.hid hl
  obtain ⟨ao', cap', rfl, hl', hm', hn', hx'⟩ := hl
  unfold maxLen at hm'
  clear hn' hx' hF hr
  unfold gen
  by_cases hz : l = []
  · have HE : Hid (orFirst F l = [F.headD 0]) := Lib.hid (by unfold orFirst; rw [if_pos hz])
    have h0 : l.length = 0 := by rw [hz]; rfl
    rw [h0]
    clear hz h0
    generalize F.headD 0 = f at *
    go_enter Try.func40, Try.ntmps40
    go_wp2
    go_ret
    exact ⟨_, rfl, by rw [HE.out]; exact reads_one (alloc2_new _ _ _), below_two _ _ _⟩
  · have HE : Hid (orFirst F l = l) := Lib.hid (by unfold orFirst; rw [if_neg hz])
    have h0 : ((l.length : Int) == 0) = false := by rw [beq_eq_false_iff_ne]; have := List.length_pos_iff.2 hz; omega
    clear hz
    go_enter Try.func40, Try.ntmps40
    go_wp2
    go_ret
    exact ⟨_, rfl, by rw [HE.out]; exact HL.out.keep ((Below.refl _ _).alloc (Nat.le_refl _) _), (Below.refl _ _).alloc (Nat.le_refl _) _⟩
end Go.Proofs.Ytahpecbcpgjinaa
