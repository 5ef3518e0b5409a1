/-
  ConfigSets: for every genesis, all lists, every other command and every set the law returns true, and what came in reads behind the call as before. No condition.
-/
import Derived.Test.YtahpecbcpgjinaaDe
namespace Go.Proofs.Ytahpecbcpgjinaa.configSets
open Go.ChangeShapes Go.WideShapes Go.ChangeAt Go.RowKit

/-- The same configuration commands. -/
def alike (L L' : List Cmd) : Prop := ∀ c, (kindC c = 2 ∨ kindC c = 3) → (c ∈ L ↔ c ∈ L')
theorem alike_added {L L' : List Cmd} (h : alike L L') (r : Int) : addedB L r = addedB L' r := by
  unfold addedB
  rw [Bool.eq_iff_iff, decide_eq_true_eq, decide_eq_true_eq]
  exact ⟨fun ⟨c, a, b, d⟩ => ⟨c, (h c (.inl b)).1 a, b, d⟩, fun ⟨c, a, b, d⟩ => ⟨c, (h c (.inl b)).2 a, b, d⟩⟩
theorem alike_removed {L L' : List Cmd} (h : alike L L') (r : Int) : removedB L r = removedB L' r := by
  unfold removedB
  rw [Bool.eq_iff_iff, decide_eq_true_eq, decide_eq_true_eq]
  exact ⟨fun ⟨c, a, b, d⟩ => ⟨c, (h c (.inr b)).1 a, b, d⟩, fun ⟨c, a, b, d⟩ => ⟨c, (h c (.inr b)).2 a, b, d⟩⟩
section
variable {M R : Int} {F : List Int} {B C B' C' : List Cmd} (hb : alike B B') (hc : alike C C')
include hb
theorem alike_members : membersL M R F B = membersL M R F B' := by
  unfold membersL membersR
  congr 2
  refine List.filter_congr fun r _ => ?_
  unfold isMem
  rw [alike_added hb, alike_removed hb]
include hc
theorem alike_ok : okB M R F B C = okB M R F B' C' := by
  unfold okB
  congr 1
  rw [Bool.eq_iff_iff, decide_eq_true_eq, decide_eq_true_eq]
  have hk : ∀ c, confB R c = true → (kindC c = 2 ∨ kindC c = 3) := fun c h => (of_decide_eq_true h).1
  exact ⟨fun h c hm hf => (hc c (hk c hf)).1 (h c ((hb c (hk c hf)).2 hm) hf), fun h c hm hf => (hc c (hk c hf)).2 (h c ((hb c (hk c hf)).1 hm) hf)⟩
theorem alike_mustP (r : Int) : mustP F B C r = mustP F B' C' r := by unfold mustP; rw [alike_added hb, alike_removed hc]
theorem alike_mayP (r : Int) : mayP F B C r = mayP F B' C' r := by unfold mayP; rw [alike_mustP hb hc, alike_added hc, alike_removed hb]
theorem alike_must : mustL M R F B C = mustL M R F B' C' := by
  unfold mustL
  rw [alike_ok hb hc, List.filter_congr fun r _ => alike_mustP (F := F) hb hc r]
theorem alike_may : mayL M R F B C = mayL M R F B' C' := by
  unfold mayL
  rw [alike_ok hb hc, List.filter_congr fun r _ => alike_mayP (F := F) hb hc r]
theorem alike_quorate (x : List Int) : quorateB M R F B C x = quorateB M R F B' C' x := by
  unfold quorateB worstL
  rw [alike_ok hb hc, alike_must hb hc, List.filter_congr (p := worstP F B C x) (q := worstP F B' C' x) fun r _ => by unfold worstP; rw [alike_mustP hb hc, alike_mayP hb hc]]
end

/-- base from its end on, each twice, behind another one. -/
def bL (o : Cmd) (B : List Cmd) (k : Nat) : List Cmd := [o] ++ (B.drop k).reverse.flatMap fun x => [x, x]
/-- conf from its end on, another one behind each. -/
def cL (o : Cmd) (C : List Cmd) (k : Nat) : List Cmd := (C.drop k).reverse.flatMap fun x => [x, o]
theorem bL_step {o : Cmd} {B : List Cmd} {j : Nat} (h : j < B.length) : bL o B j = bL o B (j + 1) ++ [B[j], B[j]] := by
  unfold bL
  rw [List.drop_eq_getElem_cons h, List.reverse_cons, List.flatMap_append, List.append_assoc]; simp
theorem cL_step {o : Cmd} {C : List Cmd} {j : Nat} (h : j < C.length) : cL o C j = cL o C (j + 1) ++ [C[j], o] := by
  unfold cL
  rw [List.drop_eq_getElem_cons h, List.reverse_cons, List.flatMap_append]; simp
theorem bL_start (o : Cmd) (B : List Cmd) : bL o B B.length = [o] := by unfold bL; simp
theorem cL_start (o : Cmd) (C : List Cmd) : cL o C C.length = [] := by unfold cL; simp
theorem flat_len (f : Cmd → List Cmd) (h : ∀ x, (f x).length = 2) : ∀ L : List Cmd, (L.flatMap f).length = 2 * L.length
  | [] => rfl
  | x :: L => by rw [List.flatMap_cons, List.length_append, h, flat_len f h L, List.length_cons]; omega
theorem bL_len (o : Cmd) (B : List Cmd) (k : Nat) : (bL o B k).length ≤ 2 * B.length + 1 := by
  unfold bL
  rw [List.length_append, flat_len _ (fun _ => rfl)]
  simp; omega
theorem cL_len (o : Cmd) (C : List Cmd) (k : Nat) : (cL o C k).length ≤ 2 * C.length := by
  unfold cL
  rw [flat_len _ (fun _ => rfl)]
  simp; omega
theorem bL_alike {o : Cmd} {B : List Cmd} (h2 : ¬ kindC o = 2) (h3 : ¬ kindC o = 3) : alike (bL o B 0) B := by
  intro c hc
  unfold bL
  have hne : c ≠ o := by rintro rfl; rcases hc with h | h <;> contradiction
  simp [List.mem_flatMap, hne]
theorem cL_alike {o : Cmd} {C : List Cmd} (h2 : ¬ kindC o = 2) (h3 : ¬ kindC o = 3) : alike (cL o C 0) C := by
  intro c hc
  unfold cL
  have hne : c ≠ o := by rintro rfl; rcases hc with h | h <;> contradiction
  simp only [List.drop_zero, List.mem_flatMap, List.mem_reverse, List.mem_cons, List.not_mem_nil, or_false]
  constructor
  · rintro ⟨a, ha, rfl | h⟩
    · exact ha
    · exact absurd h hne
  · exact fun h => ⟨c, h, .inl rfl⟩

set_option maxRecDepth 100000 in
set_option maxHeartbeats 8000000 in
theorem walk (g vB vC ov vx : Value) (M R : Int) (F xs : List Int) (B C : List Cmd) (o : Cmd) (W : World) (hg : Gen W g M R F) (hb : ReadsC W vB B) (hc : ReadsC W vC C) (ho : CmdAt W ov o) (hx : Reads vi W vx xs) :
    Calls Try.prog 12 #[g, vB, vC, ov, vx] W (BoolMade W true) := by
  have HG := Lib.hid (And.intro hg (And.intro hb (And.intro hc (And.intro ho hx))))
  obtain ⟨vF, cl, vA, vO, rfl, hF, ⟨a2, n2, k2, rfl⟩, ⟨a3, n3, k3, rfl⟩⟩ := hg
  obtain ⟨a1, n1, k1, rfl⟩ := Slc.of_reads hF
  obtain ⟨vw, vt, rfl, q1, q2⟩ := ho
  have HQQ := Lib.hid (And.intro q1 q2)
  obtain ⟨a5, n5, k5, rfl⟩ := Slc.of_readsK q1
  obtain ⟨a6, n6, k6, rfl⟩ := Slc.of_reads q2
  obtain ⟨aoB, cB, rfl, hB1, hB2, _, _⟩ := hb
  obtain ⟨aoC, cC, rfl, hC1, hC2, _, _⟩ := hc
  obtain ⟨aox, cx, rfl, hx1, hx2, _, _⟩ := hx
  unfold maxLen at hB2 hC2 hx2
  clear hF q1 q2
  unfold gen cmdV at *
  by_cases b0 : largeB F B C = true
  · have HLA := Lib.hid b0
    clear b0
    go_enter Try.func12, Try.ntmps12
    go_wp2_with fail
    refine (awake_any _).mono ?_
    rintro e w2 ⟨rfl, hb⟩
    have KB := Lib.hid (((Blk.new W 25 #[.int .i64 M, .int .i64 R, .slice a1 n1 k1, .int .i64 cl, .slice a2 n2 k2, .slice a3 n3 k3]).alloc _).on hb)
    have KO : Hid (Blk w2 (W.heap.size + 1) 52 #[.int .i64 o.1, .int .i64 o.2.1, .int .i64 (kindC o), .slice a5 n5 k5, .int .i64 (repC o), .slice a6 n6 k6]) := Lib.hid (by have h := (Blk.new (W.alloc (.cells #[.int .i64 M, .int .i64 R, .slice a1 n1 k1, .int .i64 cl, .slice a2 n2 k2, .slice a3 n3 k3] 25)) 52 #[.int .i64 o.1, .int .i64 o.2.1, .int .i64 (kindC o), .slice a5 n5 k5, .int .i64 (repC o), .slice a6 n6 k6]).on hb; rw [World.size_alloc] at h; exact h)
    have KW := Lib.hid ((below_two W (.cells #[.int .i64 M, .int .i64 R, .slice a1 n1 k1, .int .i64 cl, .slice a2 n2 k2, .slice a3 n3 k3] 25) (.cells #[.int .i64 o.1, .int .i64 o.2.1, .int .i64 (kindC o), .slice a5 n5 k5, .int .i64 (repC o), .slice a6 n6 k6] 52)).trans (hb.mono (by simp; omega)))
    clear hb
    obtain ⟨c0, c1, c2, c3, c4, c5, hlt⟩ := blk6 KB.out
    obtain ⟨o0, o1, o2, o3, o4, o5, olt⟩ := blk6 KO.out
    go_wp2_with fail
    refine (large_any _ _ _ M R F B C _ (HG.out.1.on KW.out) (HG.out.2.1.on KW.out) (HG.out.2.2.1.on KW.out)).mono ?_
    rintro e w3 ⟨rfl, hb⟩
    replace KB := Lib.hid (KB.out.on hb)
    replace KO := Lib.hid (KO.out.on hb)
    replace KW := Lib.hid (KW.out.trans (hb.mono KW.out.size))
    clear hb
    clear c0 c1 c2 c3 c4 c5 hlt o0 o1 o2 o3 o4 o5 olt
    obtain ⟨c0, c1, c2, c3, c4, c5, hlt⟩ := blk6 KB.out
    obtain ⟨o0, o1, o2, o3, o4, o5, olt⟩ := blk6 KO.out
    rw [HLA.out]
    go_wp2
    go_ret
    exact ⟨rfl, KW.out⟩
  · have HLA := Lib.hid (Bool.eq_false_iff.2 b0)
    have hBC : B.length ≤ 40 ∧ C.length ≤ 40 := by
      have := HLA.out
      unfold largeB at this
      simp only [Bool.or_eq_false_iff, decide_eq_false_iff_not] at this
      omega
    obtain ⟨hB40, hC40⟩ := hBC
    clear b0
    by_cases b1 : 40 < xs.length
    · have e1 : decide ((40 : Int) < xs.length) = true := decide_eq_true (by omega)
      go_enter Try.func12, Try.ntmps12
      go_wp2_with fail
      refine (awake_any _).mono ?_
      rintro e w2 ⟨rfl, hb⟩
      have KB := Lib.hid (((Blk.new W 25 #[.int .i64 M, .int .i64 R, .slice a1 n1 k1, .int .i64 cl, .slice a2 n2 k2, .slice a3 n3 k3]).alloc _).on hb)
      have KO : Hid (Blk w2 (W.heap.size + 1) 52 #[.int .i64 o.1, .int .i64 o.2.1, .int .i64 (kindC o), .slice a5 n5 k5, .int .i64 (repC o), .slice a6 n6 k6]) := Lib.hid (by have h := (Blk.new (W.alloc (.cells #[.int .i64 M, .int .i64 R, .slice a1 n1 k1, .int .i64 cl, .slice a2 n2 k2, .slice a3 n3 k3] 25)) 52 #[.int .i64 o.1, .int .i64 o.2.1, .int .i64 (kindC o), .slice a5 n5 k5, .int .i64 (repC o), .slice a6 n6 k6]).on hb; rw [World.size_alloc] at h; exact h)
      have KW := Lib.hid ((below_two W (.cells #[.int .i64 M, .int .i64 R, .slice a1 n1 k1, .int .i64 cl, .slice a2 n2 k2, .slice a3 n3 k3] 25) (.cells #[.int .i64 o.1, .int .i64 o.2.1, .int .i64 (kindC o), .slice a5 n5 k5, .int .i64 (repC o), .slice a6 n6 k6] 52)).trans (hb.mono (by simp; omega)))
      clear hb
      obtain ⟨c0, c1, c2, c3, c4, c5, hlt⟩ := blk6 KB.out
      obtain ⟨o0, o1, o2, o3, o4, o5, olt⟩ := blk6 KO.out
      go_wp2_with fail
      refine (large_any _ _ _ M R F B C _ (HG.out.1.on KW.out) (HG.out.2.1.on KW.out) (HG.out.2.2.1.on KW.out)).mono ?_
      rintro e w3 ⟨rfl, hb⟩
      replace KB := Lib.hid (KB.out.on hb)
      replace KO := Lib.hid (KO.out.on hb)
      replace KW := Lib.hid (KW.out.trans (hb.mono KW.out.size))
      clear hb
      clear c0 c1 c2 c3 c4 c5 hlt o0 o1 o2 o3 o4 o5 olt
      obtain ⟨c0, c1, c2, c3, c4, c5, hlt⟩ := blk6 KB.out
      obtain ⟨o0, o1, o2, o3, o4, o5, olt⟩ := blk6 KO.out
      rw [HLA.out]
      go_wp2
      go_ret
      exact ⟨rfl, KW.out⟩
    · have e1 : decide ((40 : Int) < xs.length) = false := decide_eq_false (by omega)
      by_cases b2 : kindC o = 2
      · have e2 := beq_t b2
        clear b2
        go_enter Try.func12, Try.ntmps12
        go_wp2_with fail
        refine (awake_any _).mono ?_
        rintro e w2 ⟨rfl, hb⟩
        have KB := Lib.hid (((Blk.new W 25 #[.int .i64 M, .int .i64 R, .slice a1 n1 k1, .int .i64 cl, .slice a2 n2 k2, .slice a3 n3 k3]).alloc _).on hb)
        have KO : Hid (Blk w2 (W.heap.size + 1) 52 #[.int .i64 o.1, .int .i64 o.2.1, .int .i64 (kindC o), .slice a5 n5 k5, .int .i64 (repC o), .slice a6 n6 k6]) := Lib.hid (by have h := (Blk.new (W.alloc (.cells #[.int .i64 M, .int .i64 R, .slice a1 n1 k1, .int .i64 cl, .slice a2 n2 k2, .slice a3 n3 k3] 25)) 52 #[.int .i64 o.1, .int .i64 o.2.1, .int .i64 (kindC o), .slice a5 n5 k5, .int .i64 (repC o), .slice a6 n6 k6]).on hb; rw [World.size_alloc] at h; exact h)
        have KW := Lib.hid ((below_two W (.cells #[.int .i64 M, .int .i64 R, .slice a1 n1 k1, .int .i64 cl, .slice a2 n2 k2, .slice a3 n3 k3] 25) (.cells #[.int .i64 o.1, .int .i64 o.2.1, .int .i64 (kindC o), .slice a5 n5 k5, .int .i64 (repC o), .slice a6 n6 k6] 52)).trans (hb.mono (by simp; omega)))
        clear hb
        obtain ⟨c0, c1, c2, c3, c4, c5, hlt⟩ := blk6 KB.out
        obtain ⟨o0, o1, o2, o3, o4, o5, olt⟩ := blk6 KO.out
        go_wp2_with fail
        refine (large_any _ _ _ M R F B C _ (HG.out.1.on KW.out) (HG.out.2.1.on KW.out) (HG.out.2.2.1.on KW.out)).mono ?_
        rintro e w3 ⟨rfl, hb⟩
        replace KB := Lib.hid (KB.out.on hb)
        replace KO := Lib.hid (KO.out.on hb)
        replace KW := Lib.hid (KW.out.trans (hb.mono KW.out.size))
        clear hb
        clear c0 c1 c2 c3 c4 c5 hlt o0 o1 o2 o3 o4 o5 olt
        obtain ⟨c0, c1, c2, c3, c4, c5, hlt⟩ := blk6 KB.out
        obtain ⟨o0, o1, o2, o3, o4, o5, olt⟩ := blk6 KO.out
        rw [HLA.out]
        go_wp2
        go_ret
        exact ⟨rfl, KW.out⟩
      · have e2 := beq_f b2
        by_cases b3 : kindC o = 3
        · have e3 := beq_t b3
          clear b2 b3
          go_enter Try.func12, Try.ntmps12
          go_wp2_with fail
          refine (awake_any _).mono ?_
          rintro e w2 ⟨rfl, hb⟩
          have KB := Lib.hid (((Blk.new W 25 #[.int .i64 M, .int .i64 R, .slice a1 n1 k1, .int .i64 cl, .slice a2 n2 k2, .slice a3 n3 k3]).alloc _).on hb)
          have KO : Hid (Blk w2 (W.heap.size + 1) 52 #[.int .i64 o.1, .int .i64 o.2.1, .int .i64 (kindC o), .slice a5 n5 k5, .int .i64 (repC o), .slice a6 n6 k6]) := Lib.hid (by have h := (Blk.new (W.alloc (.cells #[.int .i64 M, .int .i64 R, .slice a1 n1 k1, .int .i64 cl, .slice a2 n2 k2, .slice a3 n3 k3] 25)) 52 #[.int .i64 o.1, .int .i64 o.2.1, .int .i64 (kindC o), .slice a5 n5 k5, .int .i64 (repC o), .slice a6 n6 k6]).on hb; rw [World.size_alloc] at h; exact h)
          have KW := Lib.hid ((below_two W (.cells #[.int .i64 M, .int .i64 R, .slice a1 n1 k1, .int .i64 cl, .slice a2 n2 k2, .slice a3 n3 k3] 25) (.cells #[.int .i64 o.1, .int .i64 o.2.1, .int .i64 (kindC o), .slice a5 n5 k5, .int .i64 (repC o), .slice a6 n6 k6] 52)).trans (hb.mono (by simp; omega)))
          clear hb
          obtain ⟨c0, c1, c2, c3, c4, c5, hlt⟩ := blk6 KB.out
          obtain ⟨o0, o1, o2, o3, o4, o5, olt⟩ := blk6 KO.out
          go_wp2_with fail
          refine (large_any _ _ _ M R F B C _ (HG.out.1.on KW.out) (HG.out.2.1.on KW.out) (HG.out.2.2.1.on KW.out)).mono ?_
          rintro e w3 ⟨rfl, hb⟩
          replace KB := Lib.hid (KB.out.on hb)
          replace KO := Lib.hid (KO.out.on hb)
          replace KW := Lib.hid (KW.out.trans (hb.mono KW.out.size))
          clear hb
          clear c0 c1 c2 c3 c4 c5 hlt o0 o1 o2 o3 o4 o5 olt
          obtain ⟨c0, c1, c2, c3, c4, c5, hlt⟩ := blk6 KB.out
          obtain ⟨o0, o1, o2, o3, o4, o5, olt⟩ := blk6 KO.out
          rw [HLA.out]
          go_wp2
          go_ret
          exact ⟨rfl, KW.out⟩
        · have e3 := beq_f b3
          have HBL := Lib.hid (@bL_alike o B b2 b3)
          have HCL := Lib.hid (@cL_alike o C b2 b3)
          clear b2 b3
          go_enter Try.func12, Try.ntmps12
          go_wp2_with fail
          refine (awake_any _).mono ?_
          rintro e w2 ⟨rfl, hb⟩
          have KB := Lib.hid (((Blk.new W 25 #[.int .i64 M, .int .i64 R, .slice a1 n1 k1, .int .i64 cl, .slice a2 n2 k2, .slice a3 n3 k3]).alloc _).on hb)
          have KO : Hid (Blk w2 (W.heap.size + 1) 52 #[.int .i64 o.1, .int .i64 o.2.1, .int .i64 (kindC o), .slice a5 n5 k5, .int .i64 (repC o), .slice a6 n6 k6]) := Lib.hid (by have h := (Blk.new (W.alloc (.cells #[.int .i64 M, .int .i64 R, .slice a1 n1 k1, .int .i64 cl, .slice a2 n2 k2, .slice a3 n3 k3] 25)) 52 #[.int .i64 o.1, .int .i64 o.2.1, .int .i64 (kindC o), .slice a5 n5 k5, .int .i64 (repC o), .slice a6 n6 k6]).on hb; rw [World.size_alloc] at h; exact h)
          have KW := Lib.hid ((below_two W (.cells #[.int .i64 M, .int .i64 R, .slice a1 n1 k1, .int .i64 cl, .slice a2 n2 k2, .slice a3 n3 k3] 25) (.cells #[.int .i64 o.1, .int .i64 o.2.1, .int .i64 (kindC o), .slice a5 n5 k5, .int .i64 (repC o), .slice a6 n6 k6] 52)).trans (hb.mono (by simp; omega)))
          clear hb
          obtain ⟨c0, c1, c2, c3, c4, c5, hlt⟩ := blk6 KB.out
          obtain ⟨o0, o1, o2, o3, o4, o5, olt⟩ := blk6 KO.out
          go_wp2_with fail
          refine (large_any _ _ _ M R F B C _ (HG.out.1.on KW.out) (HG.out.2.1.on KW.out) (HG.out.2.2.1.on KW.out)).mono ?_
          rintro e w3 ⟨rfl, hb⟩
          replace KB := Lib.hid (KB.out.on hb)
          replace KO := Lib.hid (KO.out.on hb)
          replace KW := Lib.hid (KW.out.trans (hb.mono KW.out.size))
          clear hb
          clear c0 c1 c2 c3 c4 c5 hlt o0 o1 o2 o3 o4 o5 olt
          obtain ⟨c0, c1, c2, c3, c4, c5, hlt⟩ := blk6 KB.out
          obtain ⟨o0, o1, o2, o3, o4, o5, olt⟩ := blk6 KO.out
          rw [HLA.out]
          go_wp2
          have HB0 := Lib.hid (OwnC.one (c := o) (Below.refl w3.heap.size w3) ((HQQ.out.1).keep keepsWrite KW.out) (HQQ.out.2.keep KW.out))
          clear c0 c1 c2 c3 c4 c5 hlt o0 o1 o2 o3 o4 o5 olt
          obtain ⟨wa, hwa⟩ : ∃ wa, wa = w3 := ⟨_, rfl⟩
          rw [← hwa] at KB KO KW HB0 ⊢
          clear hwa
          generalize hwb : World.alloc wa _ = wb at HB0 ⊢
          generalize hva : Value.slice (some ⟨wa.heap.size, 0, none⟩) 1 1 = va at HB0 ⊢
          have HVW := Lib.hid (And.intro hwb hva)
          clear hwb hva
          go_loopg [11, 12] B.length (fun m b i wr => ∃ z : Int, z + 1 = m ∧ m ≤ B.length ∧ i = .int .i64 z ∧ OwnC wa wr b (bL o B m))
          case atStart => exact ⟨(B.length : Int) - 1, by omega, Nat.le_refl _, rfl, by rw [bL_start]; exact HB0.out⟩
          case round =>
            obtain ⟨m, rfl⟩ : ∃ m, m = gk := ⟨_, rfl⟩
            obtain ⟨z, hz, hm, rfl, hown⟩ := hrel
            have HO := Lib.hid hown
            have KWr := Lib.hid (KW.out.trans (hown.1.mono KW.out.size))
            have hbl := bL_len o B m
            clear hown
            by_cases hz0 : 0 ≤ z
            · obtain ⟨j, rfl⟩ : ∃ j : Nat, z = j := ⟨z.toNat, by omega⟩
              have hjm : m = j + 1 := by omega
              subst hjm
              have hj : j < B.length := by omega
              have hji : (j : Int) < B.length := by omega
              have hj0 : (0 : Int) ≤ (j : Int) := by omega
              have hstep := Lib.hid (@bL_step o B j hj)
              obtain ⟨b, off, c1, vw, vt, hv, hl1, hm1, hb, x0, x1, x2, x3, x4, x5, r1, r2⟩ := (HG.out.2.1.on KW.out).at_ hj
              injection hv with e1 e2 e3
              subst e1
              have hsr := fun (wz : World) (t : TypeId) => SrcC.two (w0 := wa) (wr := wz) (t := t) r1 r2 r1 r2
              obtain ⟨a7, n7, k7, rfl⟩ := Slc.of_readsK r1
              obtain ⟨a8, n8, k8, rfl⟩ := Slc.of_reads r2
              have hcell := fun (wq : World) (hq : Below wa.heap.size wa wq) => And.intro ((hq.cell (p := ⟨b, off + j * 6, none⟩) hb).trans x0) (And.intro ((hq.cell (p := ⟨b, off + j * 6 + 1, none⟩) hb).trans x1) (And.intro ((hq.cell (p := ⟨b, off + j * 6 + 2, none⟩) hb).trans x2) (And.intro ((hq.cell (p := ⟨b, off + j * 6 + 3, none⟩) hb).trans x3) (And.intro ((hq.cell (p := ⟨b, off + j * 6 + 4, none⟩) hb).trans x4) ((hq.cell (p := ⟨b, off + j * 6 + 5, none⟩) hb).trans x5)))))
              generalize B[j] = x at *
              have HN := Lib.hid (And.intro hsr hcell)
              clear r1 r2 e2 e3 x0 x1 x2 x3 x4 x5 hsr hcell hz hz0
              generalize bL o B (j + 1) = out at *
              go_wp2
              refine region_loud [.is u11, .is (.slice (some ⟨b, off, none⟩) B.length cB), .is (.int .i64 j), .is (.pointer (some ⟨b, off + j * 6, none⟩)), .is (.agg #[.int .i64 x.1, .int .i64 x.2.1, .int .i64 (kindC x), .slice a7 n7 k7, .int .i64 (repC x), .slice a8 n8 k8]), .is (.slice (some ⟨b, off, none⟩) B.length cB), .is (.int .i64 j), .is (.pointer (some ⟨b, off + j * 6, none⟩)), .is (.agg #[.int .i64 x.1, .int .i64 x.2.1, .int .i64 (kindC x), .slice a7 n7 k7, .int .i64 (repC x), .slice a8 n8 k8]), leftSrc wa [x, x]] [leftOwn wa (out ++ [x, x])] (leftOwn wa (out ++ [x, x])) 10 rfl _ rfl (by kernel_rfl) rfl (by kernel_rfl) (by kernel_rfl) (by kernel_rfl) (by kernel_rfl) (.cons ?q0 (.cons ?q1 (.cons ?q2 (.cons ?q3 (.cons ?q4 (.cons ?q5 (.cons ?q6 (.cons ?q7 (.cons ?q8 (.cons ?q9 .nil)))))))))) ?q10 (.cons ?q11 .nil) ?qfin
              case q0 =>
                intro wq hbw st  K hK
                simp only [Act.put, List.setIfInBounds_toArray, List.set_cons_zero, List.set_cons_succ] at hK ⊢
                unfold opStep
                rw [if_pos (by rfl)]
                go_simp
                exact hK.out _ _ (Below.refl _ _) rfl _ rfl
              case q1 =>
                intro wq hbw st  K hK
                simp only [Act.put, List.setIfInBounds_toArray, List.set_cons_zero, List.set_cons_succ] at hK ⊢
                unfold opStep
                rw [if_pos (by rfl)]
                go_simp
                exact hK.out _ _ (Below.refl _ _) rfl _ rfl
              case q2 =>
                intro wq hbw st  K hK
                simp only [Act.put, List.setIfInBounds_toArray, List.set_cons_zero, List.set_cons_succ] at hK ⊢
                unfold opStep
                rw [if_pos (by rfl)]
                go_simp
                exact hK.out _ _ (Below.refl _ _) rfl _ rfl
              case q3 =>
                intro wq hbw st  K hK
                simp only [Act.put, List.setIfInBounds_toArray, List.set_cons_zero, List.set_cons_succ] at hK ⊢
                unfold opStep
                rw [if_pos (by rfl)]
                go_simp
                exact hK.out _ _ (Below.refl _ _) rfl _ rfl
              case q4 =>
                intro wq hbw st  K hK
                simp only [Act.put, List.setIfInBounds_toArray, List.set_cons_zero, List.set_cons_succ] at hK ⊢
                unfold opStep
                rw [if_pos (by rfl)]
                obtain ⟨x0, x1, x2, x3, x4, x5⟩ := HN.out.2 _ (HO.out.1.trans (hbw.mono HO.out.1.size))
                go_simp
                exact hK.out _ _ (Below.refl _ _) rfl _ rfl
              case q5 =>
                intro wq hbw st  K hK
                simp only [Act.put, List.setIfInBounds_toArray, List.set_cons_zero, List.set_cons_succ] at hK ⊢
                unfold opStep
                rw [if_pos (by rfl)]
                go_simp
                exact hK.out _ _ (Below.refl _ _) rfl _ rfl
              case q6 =>
                intro wq hbw st  K hK
                simp only [Act.put, List.setIfInBounds_toArray, List.set_cons_zero, List.set_cons_succ] at hK ⊢
                unfold opStep
                rw [if_pos (by rfl)]
                go_simp
                exact hK.out _ _ (Below.refl _ _) rfl _ rfl
              case q7 =>
                intro wq hbw st  K hK
                simp only [Act.put, List.setIfInBounds_toArray, List.set_cons_zero, List.set_cons_succ] at hK ⊢
                unfold opStep
                rw [if_pos (by rfl)]
                go_simp
                exact hK.out _ _ (Below.refl _ _) rfl _ rfl
              case q8 =>
                intro wq hbw st  K hK
                simp only [Act.put, List.setIfInBounds_toArray, List.set_cons_zero, List.set_cons_succ] at hK ⊢
                unfold opStep
                rw [if_pos (by rfl)]
                obtain ⟨x0, x1, x2, x3, x4, x5⟩ := HN.out.2 _ (HO.out.1.trans (hbw.mono HO.out.1.size))
                go_simp
                exact hK.out _ _ (Below.refl _ _) rfl _ rfl
              case q9 =>
                intro wq hbw st  K hK
                simp only [Act.put, List.setIfInBounds_toArray, List.set_cons_zero, List.set_cons_succ] at hK ⊢
                unfold opStep
                rw [if_pos (by rfl)]
                go_simp
                exact hK.out _ _ ((Below.refl _ _).alloc (Nat.le_refl _) _) (HN.out.1 _ _) _ rfl
              case q10 =>
                intro wq hbw st x9 h9 K hK
                simp only [Act.put, List.setIfInBounds_toArray, List.set_cons_zero, List.set_cons_succ] at hK ⊢
                unfold opStep
                rw [if_pos (by rfl)]
                refine wp_append_cmds (w0 := wa) (.tmp 45) (.tmp 54) rfl u11 x9 out [x, x] rfl rfl (HO.out.later hbw) h9 (by simp; omega) ?_
                intro v6 w6 hown6
                exact hK.out _ _ hown6 _ rfl
              case q11 =>
                intro wq _ st x9 h9 x10 h10 K hK
                simp only [Act.put, List.setIfInBounds_toArray, List.set_cons_zero, List.set_cons_succ] at hK ⊢
                unfold opStep
                rw [if_pos (by rfl)]
                go_simp
                exact hK.out _ _ (Below.refl _ _) h10 _ rfl
              case qfin =>
                intro wq
                intro x9 h9 x10 h10 x11 h11
                try simp only [FinAll]
                simp only [Act.put, List.setIfInBounds_toArray, List.set_cons_zero, List.set_cons_succ]
                have H11 : Hid (OwnC wa wq x11 (out ++ [x, x])) := Lib.hid h11
                clear h9 h10 h11
                go_wp2
                go_roundg j
                case measure => omega
                case rel => exact ⟨(j : Int) - 1, by omega, by omega, by go_num, by rw [hstep.out]; exact H11.out⟩
            · have hm0 : m = 0 := by omega
              subst hm0
              have HB := Lib.hid HO.out.reads
              have hob := HO.out.1
              replace KB := Lib.hid (KB.out.on hob)
              replace KO := Lib.hid (KO.out.on hob)
              clear HO hz hob HB0 HVW KW hbl hm
              have KW := KWr
              clear KWr
              obtain ⟨wd, rfl⟩ : ∃ wd : World, wd = wr := ⟨_, rfl⟩
              have HC0 := Lib.hid (OwnC.nil wd)
              go_wp2
              go_loopg [13, 14] C.length (fun m b i wz => ∃ z : Int, z + 1 = m ∧ m ≤ C.length ∧ i = .int .i64 z ∧ OwnC wd wz b (cL o C m))
              case atStart => exact ⟨(C.length : Int) - 1, by omega, Nat.le_refl _, rfl, by rw [cL_start]; exact HC0.out⟩
              case round =>
                obtain ⟨m, rfl⟩ : ∃ m, m = gk := ⟨_, rfl⟩
                obtain ⟨z, hz, hm, rfl, hown⟩ := hrel
                have HO := Lib.hid hown
                have hbl := cL_len o C m
                replace HB := Lib.hid (HB.out.on hown.1)
                replace KBr := Lib.hid (KB.out.on hown.1)
                replace KOr := Lib.hid (KO.out.on hown.1)
                replace KWr := Lib.hid (KW.out.trans (hown.1.mono KW.out.size))
                clear hown
                by_cases hz0 : 0 ≤ z
                · obtain ⟨j, rfl⟩ : ∃ j : Nat, z = j := ⟨z.toNat, by omega⟩
                  have hjm : m = j + 1 := by omega
                  subst hjm
                  have hj : j < C.length := by omega
                  have hji : (j : Int) < C.length := by omega
                  have hj0 : (0 : Int) ≤ (j : Int) := by omega
                  have hstep := Lib.hid (@cL_step o C j hj)
                  obtain ⟨b, off, c1, vw, vt, hv, hl1, hm1, hb, x0, x1, x2, x3, x4, x5, r1, r2⟩ := (HG.out.2.2.1.on KW.out).at_ hj
                  injection hv with e1 e2 e3
                  subst e1
                  have hsr := fun (wz : World) (t : TypeId) => SrcC.two (w0 := wd) (wr := wz) (t := t) r1 r2 (HQQ.out.1.keep keepsWrite KW.out) (HQQ.out.2.keep KW.out)
                  obtain ⟨a7, n7, k7, rfl⟩ := Slc.of_readsK r1
                  obtain ⟨a8, n8, k8, rfl⟩ := Slc.of_reads r2
                  have hcell := fun (wq : World) (hq : Below wd.heap.size wd wq) => And.intro ((hq.cell (p := ⟨b, off + j * 6, none⟩) hb).trans x0) (And.intro ((hq.cell (p := ⟨b, off + j * 6 + 1, none⟩) hb).trans x1) (And.intro ((hq.cell (p := ⟨b, off + j * 6 + 2, none⟩) hb).trans x2) (And.intro ((hq.cell (p := ⟨b, off + j * 6 + 3, none⟩) hb).trans x3) (And.intro ((hq.cell (p := ⟨b, off + j * 6 + 4, none⟩) hb).trans x4) ((hq.cell (p := ⟨b, off + j * 6 + 5, none⟩) hb).trans x5)))))
                  generalize C[j] = x at *
                  have HN := Lib.hid (And.intro hsr hcell)
                  clear r1 r2 e2 e3 x0 x1 x2 x3 x4 x5 hsr hcell hz hz0
                  generalize cL o C (j + 1) = out at *
                  go_wp2
                  refine region_loud [.is u13, .is (.slice (some ⟨b, off, none⟩) C.length cC), .is (.int .i64 j), .is (.pointer (some ⟨b, off + j * 6, none⟩)), .is (.agg #[.int .i64 x.1, .int .i64 x.2.1, .int .i64 (kindC x), .slice a7 n7 k7, .int .i64 (repC x), .slice a8 n8 k8]), .is (.agg #[.int .i64 o.1, .int .i64 o.2.1, .int .i64 (kindC o), .slice a5 n5 k5, .int .i64 (repC o), .slice a6 n6 k6]), leftSrc wd [x, o]] [leftOwn wd (out ++ [x, o])] (leftOwn wd (out ++ [x, o])) 7 rfl _ rfl (by kernel_rfl) rfl (by kernel_rfl) (by kernel_rfl) (by kernel_rfl) (by kernel_rfl) (.cons ?s0 (.cons ?s1 (.cons ?s2 (.cons ?s3 (.cons ?s4 (.cons ?s5 (.cons ?s6 .nil))))))) ?s7 (.cons ?s8 .nil) ?sfin
                  case s0 =>
                    intro wq hbw st  K hK
                    simp only [Act.put, List.setIfInBounds_toArray, List.set_cons_zero, List.set_cons_succ] at hK ⊢
                    unfold opStep
                    rw [if_pos (by rfl)]
                    go_simp
                    exact hK.out _ _ (Below.refl _ _) rfl _ rfl
                  case s1 =>
                    intro wq hbw st  K hK
                    simp only [Act.put, List.setIfInBounds_toArray, List.set_cons_zero, List.set_cons_succ] at hK ⊢
                    unfold opStep
                    rw [if_pos (by rfl)]
                    go_simp
                    exact hK.out _ _ (Below.refl _ _) rfl _ rfl
                  case s2 =>
                    intro wq hbw st  K hK
                    simp only [Act.put, List.setIfInBounds_toArray, List.set_cons_zero, List.set_cons_succ] at hK ⊢
                    unfold opStep
                    rw [if_pos (by rfl)]
                    go_simp
                    exact hK.out _ _ (Below.refl _ _) rfl _ rfl
                  case s3 =>
                    intro wq hbw st  K hK
                    simp only [Act.put, List.setIfInBounds_toArray, List.set_cons_zero, List.set_cons_succ] at hK ⊢
                    unfold opStep
                    rw [if_pos (by rfl)]
                    go_simp
                    exact hK.out _ _ (Below.refl _ _) rfl _ rfl
                  case s4 =>
                    intro wq hbw st  K hK
                    simp only [Act.put, List.setIfInBounds_toArray, List.set_cons_zero, List.set_cons_succ] at hK ⊢
                    unfold opStep
                    rw [if_pos (by rfl)]
                    obtain ⟨x0, x1, x2, x3, x4, x5⟩ := HN.out.2 _ (HO.out.1.trans (hbw.mono HO.out.1.size))
                    go_simp
                    exact hK.out _ _ (Below.refl _ _) rfl _ rfl
                  case s5 =>
                    intro wq hbw st  K hK
                    simp only [Act.put, List.setIfInBounds_toArray, List.set_cons_zero, List.set_cons_succ] at hK ⊢
                    unfold opStep
                    rw [if_pos (by rfl)]
                    obtain ⟨d0, d1, d2, d3, d4, d5, dlt⟩ := blk6 (KOr.out.on hbw)
                    go_simp
                    exact hK.out _ _ (Below.refl _ _) rfl _ rfl
                  case s6 =>
                    intro wq hbw st  K hK
                    simp only [Act.put, List.setIfInBounds_toArray, List.set_cons_zero, List.set_cons_succ] at hK ⊢
                    unfold opStep
                    rw [if_pos (by rfl)]
                    go_simp
                    exact hK.out _ _ ((Below.refl _ _).alloc (Nat.le_refl _) _) (HN.out.1 _ _) _ rfl
                  case s7 =>
                    intro wq hbw st x6 h6 K hK
                    simp only [Act.put, List.setIfInBounds_toArray, List.set_cons_zero, List.set_cons_succ] at hK ⊢
                    unfold opStep
                    rw [if_pos (by rfl)]
                    refine wp_append_cmds (w0 := wd) (.tmp 63) (.tmp 69) rfl u13 x6 out [x, o] rfl rfl (HO.out.later hbw) h6 (by simp; omega) ?_
                    intro v6 w6 hown6
                    exact hK.out _ _ hown6 _ rfl
                  case s8 =>
                    intro wq _ st x6 h6 x7 h7 K hK
                    simp only [Act.put, List.setIfInBounds_toArray, List.set_cons_zero, List.set_cons_succ] at hK ⊢
                    unfold opStep
                    rw [if_pos (by rfl)]
                    go_simp
                    exact hK.out _ _ (Below.refl _ _) h7 _ rfl
                  case sfin =>
                    intro wq
                    intro x6 h6 x7 h7 x8 h8
                    try simp only [FinAll]
                    simp only [Act.put, List.setIfInBounds_toArray, List.set_cons_zero, List.set_cons_succ]
                    have H8 : Hid (OwnC wd wq x8 (out ++ [x, o])) := Lib.hid h8
                    clear h6 h7 h8
                    go_wp2
                    go_roundg j
                    case measure => omega
                    case rel => exact ⟨(j : Int) - 1, by omega, by omega, by go_num, by rw [hstep.out]; exact H8.out⟩
                · have hm0 : m = 0 := by omega
                  subst hm0
                  have HCc := Lib.hid HO.out.reads
                  replace KB := KBr
                  replace KO := KOr
                  replace KW := KWr
                  obtain ⟨qq, hqq⟩ : ∃ qq, quorateB M R F B C xs = qq := ⟨_, rfl⟩
                  have HQ := Lib.hid hqq
                  clear hqq HO hz hm KBr KOr KWr HC0
                  go_wp2
                  refine region_left [.is (.agg #[.int .i64 M, .int .i64 R, .slice a1 n1 k1, .int .i64 cl, .slice a2 n2 k2, .slice a3 n3 k3]), .is u11, leftReads vi (membersL M R F B), .is (.agg #[.int .i64 M, .int .i64 R, .slice a1 n1 k1, .int .i64 cl, .slice a2 n2 k2, .slice a3 n3 k3]), .is (.slice aoB B.length cB), leftReads vi (membersL M R F B), .is (.bool true), .is (.bool true), .is (.agg #[.int .i64 M, .int .i64 R, .slice a1 n1 k1, .int .i64 cl, .slice a2 n2 k2, .slice a3 n3 k3]), .is u11, .is u13, leftReads vi (mustL M R F B C), .is (.agg #[.int .i64 M, .int .i64 R, .slice a1 n1 k1, .int .i64 cl, .slice a2 n2 k2, .slice a3 n3 k3]), .is (.slice aoB B.length cB), .is (.slice aoC C.length cC), leftReads vi (mustL M R F B C), .is (.bool true), .is (.bool true), .is (.bool true), .is (.agg #[.int .i64 M, .int .i64 R, .slice a1 n1 k1, .int .i64 cl, .slice a2 n2 k2, .slice a3 n3 k3]), .is u11, .is u13, leftReads vi (mayL M R F B C), .is (.agg #[.int .i64 M, .int .i64 R, .slice a1 n1 k1, .int .i64 cl, .slice a2 n2 k2, .slice a3 n3 k3]), .is (.slice aoB B.length cB), .is (.slice aoC C.length cC), leftReads vi (mayL M R F B C), .is (.bool true), .is (.bool true), .is (.bool true), .is (.agg #[.int .i64 M, .int .i64 R, .slice a1 n1 k1, .int .i64 cl, .slice a2 n2 k2, .slice a3 n3 k3]), .is u11, .is u13, .is (.slice aox xs.length cx), .is (.bool qq), .is (.agg #[.int .i64 M, .int .i64 R, .slice a1 n1 k1, .int .i64 cl, .slice a2 n2 k2, .slice a3 n3 k3]), .is (.slice aoB B.length cB), .is (.slice aoC C.length cC), .is (.slice aox xs.length cx), .is (.bool qq), .is (.bool true), .is (.bool true), .is (.bool true)] (by kernel_rfl) rfl (by kernel_rfl) (by kernel_rfl) (.cons ?t0 (.cons ?t1 (.cons ?t2 (.cons ?t3 (.cons ?t4 (.cons ?t5 (.cons ?t6 (.cons ?t7 (.cons ?t8 (.cons ?t9 (.cons ?t10 (.cons ?t11 (.cons ?t12 (.cons ?t13 (.cons ?t14 (.cons ?t15 (.cons ?t16 (.cons ?t17 (.cons ?t18 (.cons ?t19 (.cons ?t20 (.cons ?t21 (.cons ?t22 (.cons ?t23 (.cons ?t24 (.cons ?t25 (.cons ?t26 (.cons ?t27 (.cons ?t28 (.cons ?t29 (.cons ?t30 (.cons ?t31 (.cons ?t32 (.cons ?t33 (.cons ?t34 (.cons ?t35 (.cons ?t36 (.cons ?t37 (.cons ?t38 (.cons ?t39 (.cons ?t40 (.cons ?t41 (.cons ?t42 .nil))))))))))))))))))))))))))))))))))))))))))) ?tfin
                  case t0 =>
                    intro wq hbw st  K hK
                    have KQ := KW.out.trans (hbw.mono KW.out.size)
                    simp only [Act.put, List.setIfInBounds_toArray, List.set_cons_zero, List.set_cons_succ] at hK ⊢
                    unfold opStep
                    rw [if_pos (by rfl)]
                    obtain ⟨d0, d1, d2, d3, d4, d5, dlt⟩ := blk6 (KB.out.on hbw)
                    go_simp
                    exact hK.out _ _ (Below.refl _ _) rfl _ rfl
                  case t1 =>
                    intro wq hbw st  K hK
                    have KQ := KW.out.trans (hbw.mono KW.out.size)
                    simp only [Act.put, List.setIfInBounds_toArray, List.set_cons_zero, List.set_cons_succ] at hK ⊢
                    unfold opStep
                    rw [if_pos (by rfl)]
                    go_simp
                    exact hK.out _ _ (Below.refl _ _) rfl _ rfl
                  case t2 =>
                    intro wq hbw st  K hK
                    have KQ := KW.out.trans (hbw.mono KW.out.size)
                    simp only [Act.put, List.setIfInBounds_toArray, List.set_cons_zero, List.set_cons_succ] at hK ⊢
                    unfold opStep
                    rw [if_pos (by rfl)]
                    go_simp
                    refine (made_as (alike_members HBL.out) (members_any _ _ M R F (bL o B 0) _ (HG.out.1.on KQ) (HB.out.on hbw))).mono ?_
                    rintro e wz ⟨v, rfl, hr, hbz⟩
                    go_simp
                    exact hK.out _ _ hbz hr _ rfl
                  case t3 =>
                    intro wq hbw st  K hK
                    have KQ := KW.out.trans (hbw.mono KW.out.size)
                    simp only [Act.put, List.setIfInBounds_toArray, List.set_cons_zero, List.set_cons_succ] at hK ⊢
                    unfold opStep
                    rw [if_pos (by rfl)]
                    obtain ⟨d0, d1, d2, d3, d4, d5, dlt⟩ := blk6 (KB.out.on hbw)
                    go_simp
                    exact hK.out _ _ (Below.refl _ _) rfl _ rfl
                  case t4 =>
                    intro wq hbw st  K hK
                    have KQ := KW.out.trans (hbw.mono KW.out.size)
                    simp only [Act.put, List.setIfInBounds_toArray, List.set_cons_zero, List.set_cons_succ] at hK ⊢
                    unfold opStep
                    rw [if_pos (by rfl)]
                    go_simp
                    exact hK.out _ _ (Below.refl _ _) rfl _ rfl
                  case t5 =>
                    intro wq hbw st x2 h2 K hK
                    have KQ := KW.out.trans (hbw.mono KW.out.size)
                    simp only [Act.put, List.setIfInBounds_toArray, List.set_cons_zero, List.set_cons_succ] at hK ⊢
                    unfold opStep
                    rw [if_pos (by rfl)]
                    go_simp
                    refine (members_any _ _ M R F B _ (HG.out.1.on KQ) (HG.out.2.1.on KQ)).mono ?_
                    rintro e wz ⟨v, rfl, hr, hbz⟩
                    go_simp
                    exact hK.out _ _ hbz hr _ rfl
                  case t6 =>
                    intro wq hbw st x2 h2 x5 h5 K hK
                    have KQ := KW.out.trans (hbw.mono KW.out.size)
                    simp only [Act.put, List.setIfInBounds_toArray, List.set_cons_zero, List.set_cons_succ] at hK ⊢
                    unfold opStep
                    rw [if_pos (by rfl)]
                    go_simp
                    refine (same31_yes _ _ _ _ h2 h5).mono ?_
                    rintro e wz ⟨rfl, hbz⟩
                    go_simp
                    exact hK.out _ _ hbz rfl _ rfl
                  case t7 =>
                    intro wq hbw st  K hK
                    have KQ := KW.out.trans (hbw.mono KW.out.size)
                    simp only [Act.put, List.setIfInBounds_toArray, List.set_cons_zero, List.set_cons_succ] at hK ⊢
                    unfold opStep
                    rw [if_pos (by rfl)]
                    go_simp
                    exact hK.out _ _ (Below.refl _ _) rfl _ rfl
                  case t8 =>
                    intro wq hbw st  K hK
                    have KQ := KW.out.trans (hbw.mono KW.out.size)
                    simp only [Act.put, List.setIfInBounds_toArray, List.set_cons_zero, List.set_cons_succ] at hK ⊢
                    unfold opStep
                    rw [if_pos (by rfl)]
                    obtain ⟨d0, d1, d2, d3, d4, d5, dlt⟩ := blk6 (KB.out.on hbw)
                    go_simp
                    exact hK.out _ _ (Below.refl _ _) rfl _ rfl
                  case t9 =>
                    intro wq hbw st  K hK
                    have KQ := KW.out.trans (hbw.mono KW.out.size)
                    simp only [Act.put, List.setIfInBounds_toArray, List.set_cons_zero, List.set_cons_succ] at hK ⊢
                    unfold opStep
                    rw [if_pos (by rfl)]
                    go_simp
                    exact hK.out _ _ (Below.refl _ _) rfl _ rfl
                  case t10 =>
                    intro wq hbw st  K hK
                    have KQ := KW.out.trans (hbw.mono KW.out.size)
                    simp only [Act.put, List.setIfInBounds_toArray, List.set_cons_zero, List.set_cons_succ] at hK ⊢
                    unfold opStep
                    rw [if_pos (by rfl)]
                    go_simp
                    exact hK.out _ _ (Below.refl _ _) rfl _ rfl
                  case t11 =>
                    intro wq hbw st  K hK
                    have KQ := KW.out.trans (hbw.mono KW.out.size)
                    simp only [Act.put, List.setIfInBounds_toArray, List.set_cons_zero, List.set_cons_succ] at hK ⊢
                    unfold opStep
                    rw [if_pos (by rfl)]
                    go_simp
                    refine (made_as (alike_must HBL.out HCL.out) (must_any _ _ _ M R F (bL o B 0) (cL o C 0) _ (HG.out.1.on KQ) (HB.out.on hbw) (HCc.out.on hbw))).mono ?_
                    rintro e wz ⟨v, rfl, hr, hbz⟩
                    go_simp
                    exact hK.out _ _ hbz hr _ rfl
                  case t12 =>
                    intro wq hbw st  K hK
                    have KQ := KW.out.trans (hbw.mono KW.out.size)
                    simp only [Act.put, List.setIfInBounds_toArray, List.set_cons_zero, List.set_cons_succ] at hK ⊢
                    unfold opStep
                    rw [if_pos (by rfl)]
                    obtain ⟨d0, d1, d2, d3, d4, d5, dlt⟩ := blk6 (KB.out.on hbw)
                    go_simp
                    exact hK.out _ _ (Below.refl _ _) rfl _ rfl
                  case t13 =>
                    intro wq hbw st  K hK
                    have KQ := KW.out.trans (hbw.mono KW.out.size)
                    simp only [Act.put, List.setIfInBounds_toArray, List.set_cons_zero, List.set_cons_succ] at hK ⊢
                    unfold opStep
                    rw [if_pos (by rfl)]
                    go_simp
                    exact hK.out _ _ (Below.refl _ _) rfl _ rfl
                  case t14 =>
                    intro wq hbw st  K hK
                    have KQ := KW.out.trans (hbw.mono KW.out.size)
                    simp only [Act.put, List.setIfInBounds_toArray, List.set_cons_zero, List.set_cons_succ] at hK ⊢
                    unfold opStep
                    rw [if_pos (by rfl)]
                    go_simp
                    exact hK.out _ _ (Below.refl _ _) rfl _ rfl
                  case t15 =>
                    intro wq hbw st x11 h11 K hK
                    have KQ := KW.out.trans (hbw.mono KW.out.size)
                    simp only [Act.put, List.setIfInBounds_toArray, List.set_cons_zero, List.set_cons_succ] at hK ⊢
                    unfold opStep
                    rw [if_pos (by rfl)]
                    go_simp
                    refine (must_any _ _ _ M R F B C _ (HG.out.1.on KQ) (HG.out.2.1.on KQ) (HG.out.2.2.1.on KQ)).mono ?_
                    rintro e wz ⟨v, rfl, hr, hbz⟩
                    go_simp
                    exact hK.out _ _ hbz hr _ rfl
                  case t16 =>
                    intro wq hbw st x11 h11 x15 h15 K hK
                    have KQ := KW.out.trans (hbw.mono KW.out.size)
                    simp only [Act.put, List.setIfInBounds_toArray, List.set_cons_zero, List.set_cons_succ] at hK ⊢
                    unfold opStep
                    rw [if_pos (by rfl)]
                    go_simp
                    refine (same31_yes _ _ _ _ h11 h15).mono ?_
                    rintro e wz ⟨rfl, hbz⟩
                    go_simp
                    exact hK.out _ _ hbz rfl _ rfl
                  case t17 =>
                    intro wq hbw st  K hK
                    have KQ := KW.out.trans (hbw.mono KW.out.size)
                    simp only [Act.put, List.setIfInBounds_toArray, List.set_cons_zero, List.set_cons_succ] at hK ⊢
                    unfold opStep
                    rw [if_pos (by rfl)]
                    go_simp
                    exact hK.out _ _ (Below.refl _ _) rfl _ rfl
                  case t18 =>
                    intro wq hbw st  K hK
                    have KQ := KW.out.trans (hbw.mono KW.out.size)
                    simp only [Act.put, List.setIfInBounds_toArray, List.set_cons_zero, List.set_cons_succ] at hK ⊢
                    unfold opStep
                    rw [if_pos (by rfl)]
                    go_simp
                    exact hK.out _ _ (Below.refl _ _) rfl _ rfl
                  case t19 =>
                    intro wq hbw st  K hK
                    have KQ := KW.out.trans (hbw.mono KW.out.size)
                    simp only [Act.put, List.setIfInBounds_toArray, List.set_cons_zero, List.set_cons_succ] at hK ⊢
                    unfold opStep
                    rw [if_pos (by rfl)]
                    obtain ⟨d0, d1, d2, d3, d4, d5, dlt⟩ := blk6 (KB.out.on hbw)
                    go_simp
                    exact hK.out _ _ (Below.refl _ _) rfl _ rfl
                  case t20 =>
                    intro wq hbw st  K hK
                    have KQ := KW.out.trans (hbw.mono KW.out.size)
                    simp only [Act.put, List.setIfInBounds_toArray, List.set_cons_zero, List.set_cons_succ] at hK ⊢
                    unfold opStep
                    rw [if_pos (by rfl)]
                    go_simp
                    exact hK.out _ _ (Below.refl _ _) rfl _ rfl
                  case t21 =>
                    intro wq hbw st  K hK
                    have KQ := KW.out.trans (hbw.mono KW.out.size)
                    simp only [Act.put, List.setIfInBounds_toArray, List.set_cons_zero, List.set_cons_succ] at hK ⊢
                    unfold opStep
                    rw [if_pos (by rfl)]
                    go_simp
                    exact hK.out _ _ (Below.refl _ _) rfl _ rfl
                  case t22 =>
                    intro wq hbw st  K hK
                    have KQ := KW.out.trans (hbw.mono KW.out.size)
                    simp only [Act.put, List.setIfInBounds_toArray, List.set_cons_zero, List.set_cons_succ] at hK ⊢
                    unfold opStep
                    rw [if_pos (by rfl)]
                    go_simp
                    refine (made_as (alike_may HBL.out HCL.out) (may_any _ _ _ M R F (bL o B 0) (cL o C 0) _ (HG.out.1.on KQ) (HB.out.on hbw) (HCc.out.on hbw))).mono ?_
                    rintro e wz ⟨v, rfl, hr, hbz⟩
                    go_simp
                    exact hK.out _ _ hbz hr _ rfl
                  case t23 =>
                    intro wq hbw st  K hK
                    have KQ := KW.out.trans (hbw.mono KW.out.size)
                    simp only [Act.put, List.setIfInBounds_toArray, List.set_cons_zero, List.set_cons_succ] at hK ⊢
                    unfold opStep
                    rw [if_pos (by rfl)]
                    obtain ⟨d0, d1, d2, d3, d4, d5, dlt⟩ := blk6 (KB.out.on hbw)
                    go_simp
                    exact hK.out _ _ (Below.refl _ _) rfl _ rfl
                  case t24 =>
                    intro wq hbw st  K hK
                    have KQ := KW.out.trans (hbw.mono KW.out.size)
                    simp only [Act.put, List.setIfInBounds_toArray, List.set_cons_zero, List.set_cons_succ] at hK ⊢
                    unfold opStep
                    rw [if_pos (by rfl)]
                    go_simp
                    exact hK.out _ _ (Below.refl _ _) rfl _ rfl
                  case t25 =>
                    intro wq hbw st  K hK
                    have KQ := KW.out.trans (hbw.mono KW.out.size)
                    simp only [Act.put, List.setIfInBounds_toArray, List.set_cons_zero, List.set_cons_succ] at hK ⊢
                    unfold opStep
                    rw [if_pos (by rfl)]
                    go_simp
                    exact hK.out _ _ (Below.refl _ _) rfl _ rfl
                  case t26 =>
                    intro wq hbw st x22 h22 K hK
                    have KQ := KW.out.trans (hbw.mono KW.out.size)
                    simp only [Act.put, List.setIfInBounds_toArray, List.set_cons_zero, List.set_cons_succ] at hK ⊢
                    unfold opStep
                    rw [if_pos (by rfl)]
                    go_simp
                    refine (may_any _ _ _ M R F B C _ (HG.out.1.on KQ) (HG.out.2.1.on KQ) (HG.out.2.2.1.on KQ)).mono ?_
                    rintro e wz ⟨v, rfl, hr, hbz⟩
                    go_simp
                    exact hK.out _ _ hbz hr _ rfl
                  case t27 =>
                    intro wq hbw st x22 h22 x26 h26 K hK
                    have KQ := KW.out.trans (hbw.mono KW.out.size)
                    simp only [Act.put, List.setIfInBounds_toArray, List.set_cons_zero, List.set_cons_succ] at hK ⊢
                    unfold opStep
                    rw [if_pos (by rfl)]
                    go_simp
                    refine (same31_yes _ _ _ _ h22 h26).mono ?_
                    rintro e wz ⟨rfl, hbz⟩
                    go_simp
                    exact hK.out _ _ hbz rfl _ rfl
                  case t28 =>
                    intro wq hbw st  K hK
                    have KQ := KW.out.trans (hbw.mono KW.out.size)
                    simp only [Act.put, List.setIfInBounds_toArray, List.set_cons_zero, List.set_cons_succ] at hK ⊢
                    unfold opStep
                    rw [if_pos (by rfl)]
                    go_simp
                    exact hK.out _ _ (Below.refl _ _) rfl _ rfl
                  case t29 =>
                    intro wq hbw st  K hK
                    have KQ := KW.out.trans (hbw.mono KW.out.size)
                    simp only [Act.put, List.setIfInBounds_toArray, List.set_cons_zero, List.set_cons_succ] at hK ⊢
                    unfold opStep
                    rw [if_pos (by rfl)]
                    go_simp
                    exact hK.out _ _ (Below.refl _ _) rfl _ rfl
                  case t30 =>
                    intro wq hbw st  K hK
                    have KQ := KW.out.trans (hbw.mono KW.out.size)
                    simp only [Act.put, List.setIfInBounds_toArray, List.set_cons_zero, List.set_cons_succ] at hK ⊢
                    unfold opStep
                    rw [if_pos (by rfl)]
                    obtain ⟨d0, d1, d2, d3, d4, d5, dlt⟩ := blk6 (KB.out.on hbw)
                    go_simp
                    exact hK.out _ _ (Below.refl _ _) rfl _ rfl
                  case t31 =>
                    intro wq hbw st  K hK
                    have KQ := KW.out.trans (hbw.mono KW.out.size)
                    simp only [Act.put, List.setIfInBounds_toArray, List.set_cons_zero, List.set_cons_succ] at hK ⊢
                    unfold opStep
                    rw [if_pos (by rfl)]
                    go_simp
                    exact hK.out _ _ (Below.refl _ _) rfl _ rfl
                  case t32 =>
                    intro wq hbw st  K hK
                    have KQ := KW.out.trans (hbw.mono KW.out.size)
                    simp only [Act.put, List.setIfInBounds_toArray, List.set_cons_zero, List.set_cons_succ] at hK ⊢
                    unfold opStep
                    rw [if_pos (by rfl)]
                    go_simp
                    exact hK.out _ _ (Below.refl _ _) rfl _ rfl
                  case t33 =>
                    intro wq hbw st  K hK
                    have KQ := KW.out.trans (hbw.mono KW.out.size)
                    simp only [Act.put, List.setIfInBounds_toArray, List.set_cons_zero, List.set_cons_succ] at hK ⊢
                    unfold opStep
                    rw [if_pos (by rfl)]
                    go_simp
                    exact hK.out _ _ (Below.refl _ _) rfl _ rfl
                  case t34 =>
                    intro wq hbw st  K hK
                    have KQ := KW.out.trans (hbw.mono KW.out.size)
                    simp only [Act.put, List.setIfInBounds_toArray, List.set_cons_zero, List.set_cons_succ] at hK ⊢
                    unfold opStep
                    rw [if_pos (by rfl)]
                    go_simp
                    refine (bool_as ((alike_quorate HBL.out HCL.out xs).trans HQ.out) (quorate_any _ _ _ _ M R F (bL o B 0) (cL o C 0) xs _ (HG.out.1.on KQ) (HB.out.on hbw) (HCc.out.on hbw) (HG.out.2.2.2.2.keep KQ))).mono ?_
                    rintro e wz ⟨rfl, hbz⟩
                    go_simp
                    exact hK.out _ _ hbz rfl _ rfl
                  case t35 =>
                    intro wq hbw st  K hK
                    have KQ := KW.out.trans (hbw.mono KW.out.size)
                    simp only [Act.put, List.setIfInBounds_toArray, List.set_cons_zero, List.set_cons_succ] at hK ⊢
                    unfold opStep
                    rw [if_pos (by rfl)]
                    obtain ⟨d0, d1, d2, d3, d4, d5, dlt⟩ := blk6 (KB.out.on hbw)
                    go_simp
                    exact hK.out _ _ (Below.refl _ _) rfl _ rfl
                  case t36 =>
                    intro wq hbw st  K hK
                    have KQ := KW.out.trans (hbw.mono KW.out.size)
                    simp only [Act.put, List.setIfInBounds_toArray, List.set_cons_zero, List.set_cons_succ] at hK ⊢
                    unfold opStep
                    rw [if_pos (by rfl)]
                    go_simp
                    exact hK.out _ _ (Below.refl _ _) rfl _ rfl
                  case t37 =>
                    intro wq hbw st  K hK
                    have KQ := KW.out.trans (hbw.mono KW.out.size)
                    simp only [Act.put, List.setIfInBounds_toArray, List.set_cons_zero, List.set_cons_succ] at hK ⊢
                    unfold opStep
                    rw [if_pos (by rfl)]
                    go_simp
                    exact hK.out _ _ (Below.refl _ _) rfl _ rfl
                  case t38 =>
                    intro wq hbw st  K hK
                    have KQ := KW.out.trans (hbw.mono KW.out.size)
                    simp only [Act.put, List.setIfInBounds_toArray, List.set_cons_zero, List.set_cons_succ] at hK ⊢
                    unfold opStep
                    rw [if_pos (by rfl)]
                    go_simp
                    exact hK.out _ _ (Below.refl _ _) rfl _ rfl
                  case t39 =>
                    intro wq hbw st  K hK
                    have KQ := KW.out.trans (hbw.mono KW.out.size)
                    simp only [Act.put, List.setIfInBounds_toArray, List.set_cons_zero, List.set_cons_succ] at hK ⊢
                    unfold opStep
                    rw [if_pos (by rfl)]
                    go_simp
                    refine (bool_as (HQ.out) (quorate_any _ _ _ _ M R F B C xs _ (HG.out.1.on KQ) (HG.out.2.1.on KQ) (HG.out.2.2.1.on KQ) (HG.out.2.2.2.2.keep KQ))).mono ?_
                    rintro e wz ⟨rfl, hbz⟩
                    go_simp
                    exact hK.out _ _ hbz rfl _ rfl
                  case t40 =>
                    intro wq hbw st  K hK
                    have KQ := KW.out.trans (hbw.mono KW.out.size)
                    simp only [Act.put, List.setIfInBounds_toArray, List.set_cons_zero, List.set_cons_succ] at hK ⊢
                    unfold opStep
                    rw [if_pos (by rfl)]
                    go_simp
                    exact hK.out _ _ (Below.refl _ _) rfl _ rfl
                  case t41 =>
                    intro wq hbw st  K hK
                    have KQ := KW.out.trans (hbw.mono KW.out.size)
                    simp only [Act.put, List.setIfInBounds_toArray, List.set_cons_zero, List.set_cons_succ] at hK ⊢
                    unfold opStep
                    rw [if_pos (by rfl)]
                    go_simp
                    exact hK.out _ _ (Below.refl _ _) rfl _ rfl
                  case t42 =>
                    intro wq hbw st x2 h2 x5 h5 x11 h11 x15 h15 x22 h22 x26 h26 K hK
                    have KQ := KW.out.trans (hbw.mono KW.out.size)
                    simp only [Act.put, List.setIfInBounds_toArray, List.set_cons_zero, List.set_cons_succ] at hK ⊢
                    unfold opStep
                    rw [if_pos (by rfl)]
                    go_simp
                    exact hK.out _ _ (Below.refl _ _) rfl _ rfl
                  case tfin =>
                    intro wq hbw
                    intro x2 h2 x5 h5 x11 h11 x15 h15 x22 h22 x26 h26
                    try simp only [FinAll]
                    simp only [Act.put, List.setIfInBounds_toArray, List.set_cons_zero, List.set_cons_succ]
                    replace KW := Lib.hid (KW.out.trans (hbw.mono KW.out.size))
                    clear hbw
                    go_wp2
                    go_ret
                    exact ⟨rfl, KW.out⟩

set_option maxRecDepth 100000 in
theorem lifted (os : Os) (started : os.Started) (H : Type) (enc : TypeId × Value → H) :
    ReturnsInHanded {} Try.checked os 12 .any (Rows.configSetsSpec.pre6 enc Try.prog Try.f12 Rows.configSetsRow.domain false) (Rows.configSetsSpec.post enc Try.prog Try.f12 false true false false) := by
  refine returnsInHanded_of_change (C := Try.checked) own started (by kernel_rfl) Try.func12
    (ChangeSpec.witness6 (enc := enc) (C := Try.checked) false ⟨#[], #[.agg #[.int .i64 0, .int .i64 0, .slice none 0 0, .int .i64 0, .slice none 0 0, .slice none 0 0], .slice none 0 0, .slice none 0 0, .agg #[.int .i64 0, .int .i64 0, .int .i64 0, .slice none 0 0, .int .i64 0, .slice none 0 0], .slice none 0 0], []⟩ 8 (by kernel_rfl) (by kernel_rfl) (by kernel_rfl) (by kernel_rfl)) ?_
  intro W base args ds gs before hval0 hW hcnd _
  have hval : ∀ (j : Nat) t v, Try.f12.params[j]? = some t → args[j]? = some v → Value.okWide Try.prog W .any base t v := hval0
  have hW' := hW
  obtain ⟨p, q, hA0, hV, rfl, hfz, hnd⟩ := hW
  have hA : DataW.TrodAll enc Try.prog W 0 (fun _ => true) true Try.f12.params.toList args.toList ds p := hA0
  rw [Try.params12] at hA hval
  obtain ⟨v0, vs0, d0, ds0, p0, q0, hargs, rfl, rfl, t0, r0⟩ := trodAll_cons hA
  obtain ⟨v1, vs1, d1, ds1, p1, q1, rfl, rfl, rfl, t1, r1⟩ := trodAll_cons r0
  obtain ⟨v2, vs2, d2, ds2, p2, q2, rfl, rfl, rfl, t2, r2⟩ := trodAll_cons r1
  obtain ⟨v3, vs3, d3, ds3, p3, q3, rfl, rfl, rfl, t3, r3⟩ := trodAll_cons r2
  obtain ⟨v4, vs4, d4, ds4, p4, q4, rfl, rfl, rfl, t4, r4⟩ := trodAll_cons r3
  obtain ⟨rfl, rfl, rfl⟩ := trodAll_nil r4
  obtain rfl : args = #[v0, v1, v2, v3, v4] := by cases args; simp_all
  obtain ⟨rfl, rfl⟩ := trodVars_none hV
  obtain ⟨m0, r0, f0, h0⟩ := open_gen (hval 0 25 v0 rfl rfl) t0
  obtain ⟨x1, h1⟩ := open_cmds (hval 1 26 v1 rfl rfl) t1
  obtain ⟨x2, h2⟩ := open_cmds (hval 2 26 v2 rfl rfl) t2
  obtain ⟨x3, h3⟩ := open_cmd1 (hval 3 52 v3 rfl rfl) t3
  obtain ⟨x4, h4⟩ := open_ilist (hval 4 22 v4 rfl rfl) t4
  refine (walk v0 v1 v2 v3 v4 m0 r0 f0 x4 x1 x2 x3 W h0 h1 h2 h3 h4).mono fun e W' ⟨he, hb⟩ => ?_
  subst he
  exact ⟨_, rfl, law_post laidOut rfl (fun _ _ => rfl) (by kernel_rfl) Try.underlying4 (by rw [Try.params12]; exact fun t ht => by simp at ht; rcases ht with  rfl | rfl | rfl | rfl ; all_goals exact ⟨by kernel_rfl, of_decide_eq_true (by kernel_rfl)⟩) hW' hb⟩

theorem over : Rows.configSetsRow.holds Try.pinned (OpenSpec.ofChange Rows.configSetsSpec) :=
  OpenClaim.holds_of_wide 12 Try.f12 rfl rfl rfl rfl rfl rfl rfl ⟨rfl, rfl, rfl, rfl, rfl⟩ rfl rfl rfl rfl rfl (by kernel_rfl) Try.func12 (by kernel_rfl)
    (of_decide_eq_true (by kernel_rfl)) (by unfold Func.isWrapper; first | (rw [if_pos (by decide +kernel)]; kernel_rfl) | (rw [if_neg (by decide +kernel)]; exact ⟨rfl, rfl⟩))
    (fun os started H enc _ => lifted os started H enc)

theorem proved : Rows.ConfigSetsSaid := over

end Go.Proofs.Ytahpecbcpgjinaa.configSets
