/-
  Chapter 28: the law's together.
-/
import Derived.Test.YtmcdmcnbnnfhnaaWe
namespace Go.Proofs.Ytmcdmcnbnnfhnaa
open Go.RowKit

def hasB (g : List GI) (a : Int) : Bool := g.any fun x => x.n == a
theorem hasB_step {g : List GI} {q : Nat} (hq : q < g.length) (a : Int) : hasB (g.take (q + 1)) a = (hasB (g.take q) a || g[q].n == a) := by
  unfold hasB
  rw [List.take_succ_eq_append_getElem hq, List.any_append]
  simp
theorem togB_eq (gs : List (List GI)) (a b : Int) : togB gs a b = (a == b || gs.any fun g => hasB g a && hasB g b) := rfl
theorem anyB_step {gs : List (List GI)} {k : Nat} (hk : k < gs.length) (a b : Int) : ((gs.take (k + 1)).any fun g => hasB g a && hasB g b) = (((gs.take k).any fun g => hasB g a && hasB g b) || (hasB gs[k] a && hasB gs[k] b)) := by
  rw [List.take_succ_eq_append_getElem hk, List.any_append]
  simp
set_option maxRecDepth 100000 in
set_option maxHeartbeats 8000000 in
theorem together_any {P : Nat → Prop} (v : Value) (gs : List (List GI)) (a b : Int) (w : World) (hg : ReadsD P w v (groupsD gs)) (ht : togB gs a b = true) : Calls Try.prog 26 #[v, .int .i64 a, .int .i64 b] w (BoolMade w true) := by
  obtain ⟨ao, cap, rfl, hl, hm, -, hL⟩ := ReadsD.slcM (f := fun g : List GI => [rowD g]) hg
  unfold maxLen at hm
  have HG := Lib.hid hg
  have HT := Lib.hid (togB_eq gs a b ▸ ht)
  have HF : Hid (∀ e w', e = .returned (.bool true) ∧ w' = w → BoolMade w true e w') := Lib.hid fun e w' h => ⟨h.1, h.2 ▸ Below.refl _ _⟩
  generalize hQ : BoolMade w true = Q at *
  clear hQ hg ht
  cases hab : a == b with
  | true =>
    go_enter Try.func26, Try.ntmps26
    go_wp2
    exact HF.out _ _ ⟨rfl, rfl⟩
  | false =>
  have HT2 : Hid ((gs.any fun g => hasB g a && hasB g b) = true) := Lib.hid (by have := HT.out; rwa [hab, Bool.false_or] at this)
  clear HT
  go_enter Try.func26, Try.ntmps26
  go_wp2
  clear hab
  go_loopg [7] gs.length (fun mm i wr => ∃ k : Nat, mm + k = gs.length ∧ i = .int .i64 k ∧ ((gs.take k).any fun g => hasB g a && hasB g b) = false ∧ wr = w)
  case atStart => exact ⟨0, by omega, rfl, rfl, rfl⟩
  case round =>
    obtain ⟨k, hmk, rfl, hno, rfl⟩ := hrel
    have HM := Lib.hid hmk
    have HNO := Lib.hid hno
    have hk0 : (0 : Int) ≤ (k : Int) := by omega
    have hk1 : k ≤ gs.length := by omega
    clear hmk hno
    by_cases hlt : k < gs.length
    · have hki : (k : Int) < gs.length := by omega
      obtain ⟨b1, o1, c1, cs1, e1, -, -, -, -, g1, q1⟩ := ReadsD.item (f := fun g : List GI => [rowD g]) HG.out hlt
      injection e1 with e1 e2 e3
      subst e1
      clear e2 e3
      have HST := Lib.hid (anyB_step hlt a b)
      generalize gs[k] = g at *
      obtain ⟨rv, cs2, rfl, r1, qq⟩ := q1.cons
      obtain rfl := qq.nil
      clear q1 qq
      obtain ⟨ro, rk, rfl, hrl, hrm, -, hrL⟩ := ReadsD.slcM (f := fun x : GI => [iD x.n]) r1
      unfold maxLen at hrm
      have HRW := Lib.hid r1
      have HLT := Lib.hid hlt
      have d1 : wr.cell? ⟨b1, o1 + k, none⟩ = some (.slice ro g.length rk) := by have h := g1 wr (Below.refl _ _) 0 _ rfl; simpa only [Nat.mul_one, Nat.add_zero] using h
      clear g1 r1 hlt
      obtain ⟨G, hG⟩ : ∃ G, G = gk := ⟨_, rfl⟩
      subst hG
      obtain ⟨wo, hwo⟩ : ∃ wo : World, wo = wr := ⟨_, rfl⟩
      subst hwo
      go_wp2
      go_loopg [8, 9, 10] g.length (fun mm x y j wr => ∃ q : Nat, mm + q = g.length ∧ j = .int .i64 q ∧ x = .bool (hasB (g.take q) a) ∧ y = .bool (hasB (g.take q) b) ∧ wr = wo)
      case atStart => exact ⟨0, by omega, rfl, rfl, rfl, rfl⟩
      case round =>
        obtain ⟨q, hmq, rfl, rfl, rfl, rfl⟩ := hrel
        have HM2 := Lib.hid hmq
        have hq0 : (0 : Int) ≤ (q : Int) := by omega
        have hq1 : q ≤ g.length := by omega
        clear hmq
        by_cases hlq : q < g.length
        · have hqi : (q : Int) < g.length := by omega
          have HSA := Lib.hid (hasB_step hlq a)
          have HSB := Lib.hid (hasB_step hlq b)
          obtain ⟨b2, o2, c2, cs2, e1, -, -, -, -, g2, q2⟩ := ReadsD.item (f := fun x : GI => [iD x.n]) HRW.out hlq
          injection e1 with e1 e2 e3
          subst e1
          clear e2 e3
          generalize g[q] = p at *
          obtain ⟨pv, cs3, rfl, r2, qq⟩ := q2.cons
          obtain rfl := qq.nil
          have r3 := r2.i
          subst r3
          clear q2 qq r2
          have d2 : wr.cell? ⟨b2, o2 + q, none⟩ = some (.int .i64 p.n) := by have h := g2 wr (Below.refl _ _) 0 _ rfl; simpa only [Nat.mul_one, Nat.add_zero] using h
          have HLQ := Lib.hid hlq
          clear g2 hlq
          have HE : Hid (∀ xa xb pa pb : Bool, hasB (g.take q) a = xa → hasB (g.take q) b = xb → (p.n == a) = pa → (p.n == b) = pb → (xa || pa) = hasB (g.take (q + 1)) a ∧ (xb || pb) = hasB (g.take (q + 1)) b) := Lib.hid fun xa xb pa pb h1 h2 h3 h4 => by rw [HSA.out, HSB.out, h1, h2, h3, h4]; exact ⟨rfl, rfl⟩
          cases xa : hasB (g.take q) a <;> cases xb : hasB (g.take q) b <;> cases pa : p.n == a <;> cases pb : p.n == b
          all_goals
            have HE2 := Lib.hid (HE.out _ _ _ _ xa xb pa pb)
            clear HE xa xb
            go_wp2
            go_roundg (g.length - (q + 1))
            case measure => have := HM2.out; have := HLQ.out; omega
            case rel => exact ⟨q + 1, by have := HLQ.out; omega, by go_num, congrArg Value.bool HE2.out.1, congrArg Value.bool HE2.out.2, rfl⟩
        · have hqi : ¬ (q : Int) < g.length := by omega
          have hTK : g.take q = g := List.take_of_length_le (by omega)
          rw [hTK]
          clear hTK
          cases xa : hasB g a <;> cases xb : hasB g b
          case true.true =>
            clear HST
            go_wp2
            exact HF.out _ _ ⟨rfl, rfl⟩
          all_goals
            have HN2 : Hid (((gs.take (k + 1)).any fun g => hasB g a && hasB g b) = false) := Lib.hid (by rw [HST.out, HNO.out, xa, xb]; rfl)
            clear HST xa xb
            go_wp2
            go_roundg (gs.length - (k + 1))
            case measure => have := HM.out; have := HLT.out; omega
            case rel => exact ⟨k + 1, by have := HLT.out; omega, by go_num, HN2.out, rfl⟩
    · exfalso
      have h1 := HNO.out
      rw [List.take_of_length_le (by omega), HT2.out] at h1
      cases h1
end Go.Proofs.Ytmcdmcnbnnfhnaa
