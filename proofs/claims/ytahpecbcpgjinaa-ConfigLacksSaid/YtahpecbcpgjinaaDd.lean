/-
  Chapter 39: chosen; contracts in the form that the laws use.
-/
import Derived.Test.YtahpecbcpgjinaaDb
namespace Go.Proofs.Ytahpecbcpgjinaa
open Go.RowKit

def picked : List Cmd → List Bool → List Cmd
  | c :: C, p :: P => if p then c :: picked C P else picked C P
  | _, _ => []
/-- base and the commands at the chosen places. -/
def chosenL (B C : List Cmd) (P : List Bool) : List Cmd := B ++ picked C P
theorem picked_snoc : ∀ {C : List Cmd} {P : List Bool} {k : Nat} (h : k < C.length) (h' : k < P.length), picked (C.take (k + 1)) (P.take (k + 1)) = picked (C.take k) (P.take k) ++ if P[k] then [C[k]] else []
  | c :: C, p :: P, 0, h, h' => by cases p <;> simp [picked]
  | c :: C, p :: P, k + 1, h, h' => by
    have := @picked_snoc C P k (by simpa using h) (by simpa using h')
    simp only [List.take_succ_cons, picked, List.getElem_cons_succ]
    rw [this]
    cases p <;> simp
theorem picked_end : ∀ {C : List Cmd} {P : List Bool} {k : Nat}, C.length ≤ k ∨ P.length ≤ k → picked (C.take k) (P.take k) = picked C P
  | [], P, k, _ => by simp [picked]
  | c :: C, [], k, _ => by cases k <;> simp [picked]
  | c :: C, p :: P, 0, h => by simp at h
  | c :: C, p :: P, k + 1, h => by
    have := @picked_end C P k (by simpa using h)
    simp only [List.take_succ_cons, picked]
    rw [this]
theorem picked_len : ∀ (C : List Cmd) (P : List Bool), (picked C P).length ≤ C.length
  | [], P => by simp [picked]
  | c :: C, [] => by simp [picked]
  | c :: C, p :: P => by
    have := picked_len C P
    simp only [picked]
    cases p <;> simp <;> omega
theorem picked_mem : ∀ {C : List Cmd} {P : List Bool} {c : Cmd}, c ∈ picked C P → c ∈ C
  | [], P, c, h => by simp [picked] at h
  | d :: C, [], c, h => by simp [picked] at h
  | d :: C, p :: P, c, h => by
    simp only [picked] at h
    cases p with
    | false => exact List.mem_cons_of_mem _ (picked_mem h)
    | true =>
      rcases List.mem_cons.1 (show c ∈ d :: picked C P from h) with rfl | h
      · exact List.mem_cons_self ..
      · exact List.mem_cons_of_mem _ (picked_mem h)

def MadeC (w : World) (xs : List Cmd) (e : Ending) (w' : World) : Prop := ∃ v', e = .returned v' ∧ ReadsC w' v' xs ∧ Below w.heap.size w w'
def leftC (xs : List Cmd) : Left := .has (fun x w => ReadsC w x xs) (fun _ _ _ hb h => h.on hb)
theorem isq_as {M : Int} {v u : Value} {xs ys : List Int} {w : World} {b : Bool} (hr : Reads vi w v xs) (hq : Reads vi w u ys) (e : isQ M xs ys = b) : Calls Try.prog 30 #[.int .i64 M, v, u] w (BoolMade w b) := by
  subst e
  exact (isq_any M v u xs ys w hr hq).mono fun _ _ ⟨a, b⟩ => ⟨a, by subst b; exact Below.refl _ _⟩

set_option maxRecDepth 100000 in
set_option maxHeartbeats 4000000 in
theorem chosen_any (vB vC vP : Value) (B C : List Cmd) (P : List Bool) (w : World) (hb : ReadsC w vB B) (hc : ReadsC w vC C) (hp : Reads Value.bool w vP P) (hn : B.length + C.length ≤ 1000000) :
    Calls Try.prog 34 #[vB, vC, vP] w (MadeC w (chosenL B C P)) := by
  have HR := Lib.hid (And.intro hb (And.intro hc hp))
  have HM : Hid (chosenL B C P = B ++ picked C P) := Lib.hid rfl
  obtain ⟨aoC, cC, rfl, hlC, hmC, hnC, hxC⟩ := hc
  obtain ⟨aoP, cP, rfl, hlP, hmP, hnP, hxP⟩ := hp
  have HXP := Lib.hid hxP
  unfold maxLen at hmC hmP
  clear hb hnC hxC hnP hxP
  generalize chosenL B C P = res at *
  go_enter Try.func34, Try.ntmps34
  go_wp2_with (at_builtin; refine append_cmds (w0 := w) rfl (.tmp 9) (.tmp 10) rfl _ vB [] B rfl rfl (OwnC.empty (Below.refl _ _)) (SrcC.of_reads HR.out.1 ((Below.refl _ _).alloc (Nat.le_refl _) _)) (by simp; omega) ?_)
  intro v1 w1 hown1
  have H1 := Lib.hid hown1
  clear hown1
  go_wp2
  go_loopg [7, 8] C.length (fun m o i wr => ∃ k : Nat, m + k = C.length ∧ i = .int .i64 k ∧ k ≤ P.length ∧ OwnC w wr o (B ++ picked (C.take k) (P.take k)))
  case atStart => exact ⟨0, by omega, rfl, by omega, by simpa [picked] using H1.out⟩
  case round =>
    obtain ⟨k, hmk, rfl, hkP, hown⟩ := hrel
    have HMK := Lib.hid hmk
    have HO := Lib.hid hown
    have hpl : (picked (C.take k) (P.take k)).length ≤ k := Nat.le_trans (picked_len _ _) (List.length_take_le _ _)
    have hk : k ≤ C.length := by omega
    clear hmk hown
    by_cases hlt : k < C.length
    · by_cases hltP : k < P.length
      · have hs := picked_snoc hlt hltP
        obtain ⟨bP, oP, rfl, hbP, hcP⟩ := HXP.out (by intro e; subst e; simp at hltP)
        have p0 : wr.cell? ⟨bP, oP + k, none⟩ = some (.bool P[k]) := (HO.out.1.cell (p := ⟨bP, oP + k, none⟩) hbP).trans (hcP k hltP)
        have hi1 : (k : Int) < C.length := by omega
        have hi2 : (k : Int) < P.length := by omega
        clear hcP
        generalize P[k] = b at *
        cases b
        · have HE : Hid (picked (C.take (k + 1)) (P.take (k + 1)) = picked (C.take k) (P.take k)) := Lib.hid (hs.trans (by simp))
          clear hs
          generalize picked (C.take k) (P.take k) = out at *
          go_wp2
          go_roundg (C.length - (k + 1))
          case measure => have := HMK.out; omega
          case rel => exact ⟨k + 1, by omega, by go_num, by omega, by rw [HE.out]; exact HO.out⟩
        · have HE : Hid (B ++ picked (C.take (k + 1)) (P.take (k + 1)) = (B ++ picked (C.take k) (P.take k)) ++ [C[k]]) := Lib.hid (by rw [hs, List.append_assoc]; rfl)
          clear hs
          obtain ⟨bC, oC, c1, vw, vt, hv, hl1, hm1, hb, x0, x1, x2, x3, x4, x5, r1, r2⟩ := HR.out.2.1.at_ hlt
          injection hv with e1 e2 e3
          subst e1
          have y0 := (HO.out.1.cell (p := ⟨bC, oC + k * 6, none⟩) hb).trans x0
          have y1 := (HO.out.1.cell (p := ⟨bC, oC + k * 6 + 1, none⟩) hb).trans x1
          have y2 := (HO.out.1.cell (p := ⟨bC, oC + k * 6 + 2, none⟩) hb).trans x2
          have y3 := (HO.out.1.cell (p := ⟨bC, oC + k * 6 + 3, none⟩) hb).trans x3
          have y4 := (HO.out.1.cell (p := ⟨bC, oC + k * 6 + 4, none⟩) hb).trans x4
          have y5 := (HO.out.1.cell (p := ⟨bC, oC + k * 6 + 5, none⟩) hb).trans x5
          have hsr := Lib.hid (SrcC.of_new (w0 := w) (wr := wr) (c := C[k]) (t := 52) r1 r2)
          obtain ⟨a5, n5, k5, rfl⟩ := Slc.of_readsK r1
          obtain ⟨a6, n6, k6, rfl⟩ := Slc.of_reads r2
          have hol : (B ++ picked (C.take k) (P.take k)).length ≤ B.length + k := by simp; omega
          clear x0 x1 x2 x3 x4 x5 r1 r2 e2 e3
          generalize C[k] = x at *
          generalize B ++ picked (C.take k) (P.take k) = out at *
          go_wp2_with (at_builtin; refine append_cmds (w0 := w) rfl (.tmp 28) (.tmp 33) rfl u7 _ out [x] rfl rfl (HO.out.later ((Below.refl _ _).alloc (Nat.le_refl _) _)) hsr.out (by simp; omega) ?_)
          intro v6 w6 hown6
          have H6 := Lib.hid hown6
          clear hown6
          go_wp2
          go_roundg (C.length - (k + 1))
          case measure => have := HMK.out; omega
          case rel => exact ⟨k + 1, by omega, by go_num, by omega, by rw [HE.out]; exact H6.out⟩
      · have HE : Hid (B ++ picked (C.take k) (P.take k) = res) := Lib.hid (by rw [picked_end (.inr (by omega))]; exact HM.out.symm)
        have hi2 : ¬ (k : Int) < P.length := by omega
        go_wp2
        go_ret
        exact ⟨_, rfl, by rw [← HE.out]; exact HO.out.reads, HO.out.1⟩
    · have HE : Hid (B ++ picked (C.take k) (P.take k) = res) := Lib.hid (by rw [picked_end (.inl (by omega))]; exact HM.out.symm)
      go_wp2
      go_ret
      exact ⟨_, rfl, by rw [← HE.out]; exact HO.out.reads, HO.out.1⟩
end Go.Proofs.Ytahpecbcpgjinaa
