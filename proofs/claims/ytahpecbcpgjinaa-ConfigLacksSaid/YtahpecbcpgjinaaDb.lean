/-
  Chapter 39: in, some, founder of the reference.
-/
import Derived.Test.YtahpecbcpgjinaaDa
import Derived.Test.YtahpecbcpgjinaaCw
import Derived.Test.YtahpecbcpgjinaaCy
import Derived.Test.YtahpecbcpgjinaaRg
namespace Go.Proofs.Ytahpecbcpgjinaa
open Go.RowKit

set_option maxRecDepth 100000 in
set_option maxHeartbeats 2000000 in
theorem in_any (v u : Value) (L : List Cmd) (c : Cmd) (w : World) (hr : ReadsC w v L) (hc : CmdAt w u c) :
    Calls Try.prog 53 #[v, u] w (BoolMade w (decide (c ∈ L))) := by
  have HR := Lib.hid (And.intro hr hc)
  obtain ⟨ao, cap, rfl, hl, hm, hn, hx⟩ := hr
  obtain ⟨vw, vt, rfl, r1, r2⟩ := hc
  obtain ⟨s3, n3, k3, rfl⟩ := Slc.of_readsK r1
  obtain ⟨s4, n4, k4, rfl⟩ := Slc.of_reads r2
  unfold maxLen at hm
  clear hn hx r1 r2
  unfold cmdV at *
  go_enter Try.func53, Try.ntmps53
  go_wp2
  generalize hw1 : World.alloc w _ = w1
  have HB1 := Lib.hid (boxed_of hw1)
  clear hw1
  go_loopg [5] L.length (fun m i wr => ∃ k : Nat, m + k = L.length ∧ i = .int .i64 k ∧ ¬ c ∈ L.take k ∧ Below w1.heap.size w1 wr)
  case atStart => exact ⟨0, by omega, rfl, by simp, Below.refl _ _⟩
  case round =>
    obtain ⟨k, hmk, rfl, hp, hb⟩ := hrel
    have HP := Lib.hid (And.intro hp (And.intro hmk (HB1.out.2.trans (hb.mono HB1.out.2.size))))
    have HBX := Lib.hid (HB1.out.1.on hb)
    have HBW := Lib.hid hb
    have hk : k ≤ L.length := by omega
    clear hp hmk hb
    by_cases hlt : k < L.length
    · obtain ⟨b, off, c1, vw, vt, hv, hl1, hm1, hb, x0, x1, x2, x3, x4, x5, r1, r2⟩ := (HR.out.1.on HP.out.2.2).at_ hlt
      injection hv with e1 e2 e3
      subst e1
      have hel : CmdAt wr (cmdV L[k] vw vt) L[k] := ⟨vw, vt, rfl, r1, r2⟩
      have h1 := @notc_snoc L k c hlt HP.out.1
      have h2 := @memc_at L k c hlt
      obtain ⟨s5, n5, k5, rfl⟩ := Slc.of_readsK r1
      obtain ⟨s6, n6, k6, rfl⟩ := Slc.of_reads r2
      unfold cmdV at hel
      have hi : (k : Int) < L.length := by omega
      have hcell := fun (wq : World) (hq : Below wr.heap.size wr wq) => And.intro ((hq.cell (p := ⟨b, off + k * 6, none⟩) hb).trans x0) (And.intro ((hq.cell (p := ⟨b, off + k * 6 + 1, none⟩) hb).trans x1) (And.intro ((hq.cell (p := ⟨b, off + k * 6 + 2, none⟩) hb).trans x2) (And.intro ((hq.cell (p := ⟨b, off + k * 6 + 3, none⟩) hb).trans x3) (And.intro ((hq.cell (p := ⟨b, off + k * 6 + 4, none⟩) hb).trans x4) ((hq.cell (p := ⟨b, off + k * 6 + 5, none⟩) hb).trans x5)))))
      generalize L[k] = x at *
      have HN := Lib.hid (And.intro h1 (And.intro h2 (And.intro hel hcell)))
      clear r1 r2 h1 h2 e2 e3 x0 x1 x2 x3 x4 x5 hel hcell
      generalize hd : decide (x = c) = d
      have HD := Lib.hid hd
      clear hd
      go_wp2
      refine region_left [.is (.slice (some ⟨b, off, none⟩) L.length cap), .is (.int .i64 k), .is (.pointer (some ⟨b, off + k * 6, none⟩)), .is (.agg #[.int .i64 x.1, .int .i64 x.2.1, .int .i64 (kindC x), .slice s5 n5 k5, .int .i64 (repC x), .slice s6 n6 k6]), .is (.agg #[.int .i64 c.1, .int .i64 c.2.1, .int .i64 (kindC c), .slice s3 n3 k3, .int .i64 (repC c), .slice s4 n4 k4]), .is (.bool (decide (x = c)))] (by kernel_rfl) rfl (by kernel_rfl) (by kernel_rfl) (.cons ?q0 (.cons ?q1 (.cons ?q2 (.cons ?q3 (.cons ?q4 (.cons ?q5 .nil)))))) ?qfin
      case q0 =>
        intro wq hbw st  K hK
        simp only [Act.put, List.setIfInBounds_toArray, List.set_cons_zero, List.set_cons_succ] at hK ⊢
        unfold opStep
        rw [if_pos (by rfl)]
        go_simp
        exact hK.out _ _ (Below.refl _ _) rfl _ rfl
      case q1 =>
        intro wq hbw st  K hK
        simp only [Act.put, List.setIfInBounds_toArray, List.set_cons_zero, List.set_cons_succ] at hK ⊢
        unfold opStep
        rw [if_pos (by rfl)]
        go_simp
        exact hK.out _ _ (Below.refl _ _) rfl _ rfl
      case q2 =>
        intro wq hbw st  K hK
        simp only [Act.put, List.setIfInBounds_toArray, List.set_cons_zero, List.set_cons_succ] at hK ⊢
        unfold opStep
        rw [if_pos (by rfl)]
        go_simp
        exact hK.out _ _ (Below.refl _ _) rfl _ rfl
      case q3 =>
        intro wq hbw st  K hK
        simp only [Act.put, List.setIfInBounds_toArray, List.set_cons_zero, List.set_cons_succ] at hK ⊢
        unfold opStep
        rw [if_pos (by rfl)]
        obtain ⟨x0, x1, x2, x3, x4, x5⟩ := HN.out.2.2.2 _ hbw
        go_simp
        exact hK.out _ _ (Below.refl _ _) rfl _ rfl
      case q4 =>
        intro wq hbw st  K hK
        simp only [Act.put, List.setIfInBounds_toArray, List.set_cons_zero, List.set_cons_succ] at hK ⊢
        unfold opStep
        rw [if_pos (by rfl)]
        obtain ⟨c0, c1, c2, c3, c4, c5, hlx⟩ := blk6 (HBX.out.on hbw)
        go_simp
        exact hK.out _ _ (Below.refl _ _) rfl _ rfl
      case q5 =>
        intro wq hbw st  K hK
        simp only [Act.put, List.setIfInBounds_toArray, List.set_cons_zero, List.set_cons_succ] at hK ⊢
        unfold opStep
        rw [if_pos (by rfl)]
        go_simp
        refine (rsame_any _ _ x c _ (HN.out.2.2.1.on hbw) ((HR.out.2.on HP.out.2.2).on hbw)).mono ?_
        rintro e wz ⟨rfl, hbz⟩
        go_simp
        exact hK.out _ _ hbz rfl _ rfl
      case qfin =>
        intro wq hbw
        try simp only [FinAll]
        simp only [Act.put, List.setIfInBounds_toArray, List.set_cons_zero, List.set_cons_succ]
        rw [HD.out]
        have HW := Lib.hid (And.intro (HP.out.2.2.trans (hbw.mono HP.out.2.2.size)) (HBW.out.trans (hbw.mono HBW.out.size)))
        clear hbw
        cases d
        · have hxc : ¬ c = x := fun e => by have := HD.out; rw [decide_eq_false_iff_not] at this; exact this e.symm
          have HC := Lib.hid hxc
          clear hxc
          go_wp2
          go_roundg (L.length - (k + 1))
          case measure => have := HP.out.2.1; omega
          case rel => exact ⟨k + 1, by omega, by go_num, HN.out.1 HC.out, HW.out.2⟩
        · have hxc : c = x := (of_decide_eq_true HD.out).symm
          have HC := Lib.hid hxc
          clear hxc
          go_wp2
          go_ret
          exact ⟨ret_bool (HN.out.2.1 HC.out).symm, HW.out.1⟩
    · go_wp2
      go_ret
      exact ⟨ret_bool (notc_all (by omega) HP.out.1).symm, HP.out.2.2⟩

theorem someB_snoc {L : List Cmd} {k : Nat} {kd r : Int} (h : k < L.length) (hp : ¬ ∃ c ∈ L.take k, kindC c = kd ∧ repC c = r) (hd : ¬ (kindC L[k] = kd ∧ repC L[k] = r)) : ¬ ∃ c ∈ L.take (k + 1), kindC c = kd ∧ repC c = r := by
  rw [List.take_succ_eq_append_getElem h]
  rintro ⟨c, hc, h1⟩
  rcases List.mem_append.1 hc with hc | hc
  · exact hp ⟨c, hc, h1⟩
  · rw [List.mem_singleton] at hc; subst hc; exact hd h1

set_option maxRecDepth 100000 in
set_option maxHeartbeats 2000000 in
theorem some_any (v : Value) (L : List Cmd) (kd r : Int) (w : World) (hr : ReadsC w v L) :
    Calls Try.prog 59 #[v, .int .i64 kd, .int .i64 r] w fun e w' => e = .returned (.bool (decide (∃ c ∈ L, kindC c = kd ∧ repC c = r))) ∧ w = w' := by
  have HR := Lib.hid hr
  obtain ⟨ao, cap, rfl, hl, hm, hn, hx⟩ := hr
  unfold maxLen at hm
  clear hn hx
  generalize hv : decide (∃ c ∈ L, kindC c = kd ∧ repC c = r) = res
  have HV := Lib.hid hv
  clear hv
  go_enter Try.func59, Try.ntmps59
  go_wp2
  go_loop [7] (fun i => ∃ k : Nat, k ≤ L.length ∧ i = .int .i64 k ∧ ¬ ∃ c ∈ L.take k, kindC c = kd ∧ repC c = r) (fun i => L.length - (intOf i).toNat)
  case atStart => exact ⟨0, by omega, rfl, by simp⟩
  case round =>
    obtain ⟨k, hk, rfl, hp⟩ := hrel
    have HP := Lib.hid hp
    clear hp
    by_cases hlt : k < L.length
    · obtain ⟨b, off, c1, vw, vt, hv, hl1, hm1, hb, x0, x1, x2, x3, x4, x5, r1, r2⟩ := HR.out.at_ hlt
      injection hv with e1 e2 e3
      subst e1
      have h1 := @someB_snoc L k kd r hlt HP.out
      have h2 : kindC L[k] = kd → repC L[k] = r → (decide (∃ c ∈ L, kindC c = kd ∧ repC c = r)) = true := fun a b => decide_eq_true ⟨L[k], List.getElem_mem _, a, b⟩
      have HN := Lib.hid (And.intro h1 h2)
      have hi : (k : Int) < L.length := by omega
      clear r1 r2 h1 h2 e2 e3 x0 x1 x3 x5
      generalize kindC L[k] = y1 at *
      generalize repC L[k] = y2 at *
      by_cases a1 : y1 = kd
      · have b1 := beq_t a1
        by_cases a2 : y2 = r
        · have b2 := beq_t a2
          have HE := Lib.hid (HN.out.2 a1 a2)
          clear a1 a2
          go_wp2
          go_ret
          exact ⟨ret_bool (HE.out.symm.trans HV.out), rfl⟩
        · have b2 := beq_f a2
          have HE := Lib.hid (HN.out.1 (fun h => a2 h.2))
          clear a1 a2
          go_wp2
          go_round
          case rel => exact ⟨k + 1, by omega, by go_num, HE.out⟩
          case measure => simp [intOf]; omega
      · have b1 := beq_f a1
        have HE := Lib.hid (HN.out.1 (fun h => a1 h.1))
        clear a1
        go_wp2
        go_round
        case rel => exact ⟨k + 1, by omega, by go_num, HE.out⟩
        case measure => simp [intOf]; omega
    · have HE : Hid (decide (∃ c ∈ L, kindC c = kd ∧ repC c = r) = false) := Lib.hid (decide_eq_false (by have := HP.out; rwa [List.take_of_length_le (by omega)] at this))
      go_wp2
      go_ret
      exact ⟨ret_bool (HE.out.symm.trans HV.out), rfl⟩

set_option maxRecDepth 100000 in
set_option maxHeartbeats 2000000 in
theorem founder_any (g : Value) (M R : Int) (F : List Int) (r : Int) (w : World) (hg : Gen w g M R F) :
    Calls Try.prog 58 #[g, .int .i64 r] w (BoolMade w (decide (r ∈ F))) := by
  obtain ⟨vF, cl, vA, vO, rfl, hr, ⟨a2, n2, k2, rfl⟩, ⟨a3, n3, k3, rfl⟩⟩ := hg
  have HF := Lib.hid hr
  obtain ⟨ao, cap, rfl, hl, hm, hn, hx⟩ := hr
  have HX := Lib.hid hx
  unfold maxLen at hm
  clear hn hx
  generalize hv : decide (r ∈ F) = res
  have HV := Lib.hid hv
  clear hv
  unfold gen
  go_enter Try.func58, Try.ntmps58
  go_wp2
  generalize hw1 : World.alloc w _ = w1
  have HB1 := Lib.hid (boxed_of hw1)
  clear hw1
  obtain ⟨c0, c1, c2, c3, c4, c5, hlt1⟩ := blk6 HB1.out.1
  clear c0 c1 c3 c4 c5
  go_loop [5] (fun i => ∃ k : Nat, k ≤ F.length ∧ i = .int .i64 k ∧ ¬ r ∈ F.take k) (fun i => F.length - (intOf i).toNat)
  case atStart => exact ⟨0, by omega, rfl, by simp⟩
  case round =>
    obtain ⟨k, hk, rfl, hp⟩ := hrel
    have HP := Lib.hid hp
    clear hp
    by_cases hlt : k < F.length
    · obtain ⟨b, off, rfl, hb, hc⟩ := HX.out (by intro e; subst e; simp at hlt)
      have hc1 : w1.cell? ⟨b, off + k, none⟩ = some (.int .i64 F[k]) := (HB1.out.2.cell (p := ⟨b, off + k, none⟩) hb).trans (hc k hlt)
      have h1 : ¬ F[k] = r → _ := fun e => not_mem_snoc hlt HP.out e
      have h2 : F[k] = r → _ := fun e => mem_at hlt e
      have HN := Lib.hid (And.intro h1 h2)
      have hi : (k : Int) < F.length := by omega
      clear h1 h2 hc
      generalize F[k] = x at *
      by_cases a1 : x = r
      · have b1 := beq_t a1
        have HE := Lib.hid (HN.out.2 a1)
        clear a1
        go_wp2
        go_ret
        exact ⟨ret_bool (HE.out.symm.trans HV.out), HB1.out.2⟩
      · have b1 := beq_f a1
        have HE := Lib.hid (HN.out.1 a1)
        clear a1
        go_wp2
        go_round
        case rel => exact ⟨k + 1, by omega, by go_num, HE.out⟩
        case measure => simp [intOf]; omega
    · have HE : Hid (decide (r ∈ F) = false) := Lib.hid (decide_eq_false (by have := HP.out; rwa [List.take_of_length_le (by omega)] at this))
      go_wp2
      go_ret
      exact ⟨ret_bool (HE.out.symm.trans HV.out), HB1.out.2⟩

end Go.Proofs.Ytahpecbcpgjinaa
