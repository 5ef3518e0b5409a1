/-
  Chapter 54: the reference's indices.
-/
import Derived.Test.YtnpfalloelmflaaHg
import Derived.Test.YtnpfalloelmflaaRg
namespace Go.Proofs.Ytnpfalloelmflaa
open Go.RowKit

def indB (n : Nat) (order : List Int) : Bool := decide ((∀ i ∈ order, 0 ≤ i ∧ i < n) ∧ order.Nodup)
theorem ind_bad (n : Nat) (order : List Int) (k : Nat) (hk : k < order.length) (hb : ¬ (0 ≤ order[k] ∧ order[k] < n)) : indB n order = false :=
  decide_eq_false fun h => hb (h.1 _ (List.getElem_mem hk))
theorem ind_dup (n : Nat) (order : List Int) (j k : Nat) (hk : k < order.length) (hj : j < k) (hb : order[j]'(Nat.lt_trans hj hk) = order[k]) : indB n order = false :=
  decide_eq_false fun h => by
    have := (List.nodup_iff_pairwise_ne.1 h.2)
    exact (List.pairwise_iff_getElem.1 this) j k (Nat.lt_trans hj hk) hk hj hb
theorem ind_nil (n : Nat) : indB n [] = true := decide_eq_true ⟨by simp, by simp⟩
theorem ind_snoc (n : Nat) (order : List Int) (k : Nat) (hk : k < order.length) (hp : indB n (order.take k) = true) (hb : 0 ≤ order[k] ∧ order[k] < n) (hd : order[k] ∉ order.take k) : indB n (order.take (k + 1)) = true := by
  have h := of_decide_eq_true hp
  rw [List.take_succ_eq_append_getElem hk]
  refine decide_eq_true ⟨fun i hi => ?_, ?_⟩
  · rcases List.mem_append.1 hi with h1 | h1
    · exact h.1 i h1
    · rw [List.mem_singleton.1 h1]; exact hb
  · rw [List.nodup_append]
    refine ⟨h.2, by simp, fun a ha b hb' => ?_⟩
    rw [List.mem_singleton.1 hb']
    exact fun e => hd (e ▸ ha)

set_option maxRecDepth 100000 in
set_option maxHeartbeats 8000000 in
theorem rindices_any (n : Nat) (v : Value) (order : List Int) (W : World) (_ : n ≤ 1000000) (ho : Reads vi W v order) : Calls Try.prog 39 #[.int .i64 n, v] W (BoolMade W (indB n order)) := by
  have HO := Lib.hid ho
  have HBAD := Lib.hid (ind_bad n order)
  have HDUP := Lib.hid (ind_dup n order)
  have HEND : Hid (∀ k, k = order.length → indB n (order.take k) = true → indB n order = true) := Lib.hid fun k hk h1 => by rw [hk, List.take_length] at h1; exact h1
  have HSNOC := Lib.hid (ind_snoc n order)
  have HNIL := Lib.hid (ind_nil n)
  generalize indB n order = res at HBAD HDUP HEND ⊢
  obtain ⟨ao, cap, rfl, hl, hm, -, -⟩ := ho
  unfold maxLen at hm
  go_enter Try.func39, Try.ntmps39
  go_wp2
  go_loopg [5] order.length (fun m i wr => ∃ k : Nat, m + k = order.length ∧ i = .int .i64 k ∧ indB n (order.take k) = true ∧ Below W.heap.size W wr)
  case atStart => exact ⟨0, by omega, rfl, by rw [List.take_zero]; exact HNIL.out, Below.refl _ _⟩
  case round =>
    obtain ⟨k, hmk, rfl, hall, hbel⟩ := hrel
    have HM := Lib.hid hmk
    have HP := Lib.hid hall
    have KW := Lib.hid hbel
    have hk : k ≤ order.length := by omega
    clear hmk hall hbel
    by_cases hlt : k < order.length
    · obtain ⟨b, off, cap1, hv, hb, hc⟩ := int_at HO.out hlt
      injection hv with e1 e2 e3
      subst e1
      have HC : Hid (∀ wq, Below W.heap.size W wq → wq.cell? ⟨b, off + k, none⟩ = some (vi order[k])) := Lib.hid fun wq h1 => (h1.cell (p := ⟨b, off + k, none⟩) hb).trans hc
      have hc0 := HC.out wr KW.out
      clear hb hc e2 e3
      unfold vi at hc0
      have hki : (k : Int) < order.length := by omega
      have hk0 : (0 : Int) ≤ (k : Int) := by omega
      have HLT := Lib.hid hlt
      have HB1 := Lib.hid (HBAD.out k hlt)
      have HD1 : Hid (∀ j, j < k → order[j]? = some order[k] → res = false) := Lib.hid fun j hj h1 => HDUP.out j k hlt hj (by rw [List.getElem?_eq_getElem (by omega)] at h1; exact Option.some.inj h1)
      have HS1 := Lib.hid (HSNOC.out k hlt HP.out)
      generalize hx : order[k] = x at *
      by_cases hx0 : x < 0
      · go_wp2
        go_ret
        exact ⟨ret_bool (HB1.out (by omega)).symm, KW.out⟩
      by_cases hxn : x < n
      · have hx1 : (0 : Int) ≤ x := by omega
        have hxn' : ¬ (n : Int) ≤ x := by omega
        have HX := Lib.hid (And.intro hx1 hxn)
        go_wp2
        clear hc0
        obtain ⟨G1, hG1⟩ : ∃ G, G = gk := ⟨_, rfl⟩
        subst hG1
        go_loopg [6] k (fun m i wr => ∃ j : Nat, m + j = k ∧ i = .int .i64 j ∧ x ∉ order.take j ∧ Below W.heap.size W wr)
        case atStart => exact ⟨0, by omega, rfl, by simp, KW.out⟩
        case round =>
          clear KW
          obtain ⟨j, hmj, rfl, hq, hbel⟩ := hrel
          have HM2 := Lib.hid hmj
          have HQ := Lib.hid hq
          have KW := Lib.hid hbel
          have hj : j ≤ k := by omega
          clear hmj hq hbel
          by_cases hjk : j < k
          · have hjh : j < order.length := by omega
            obtain ⟨b', off', cap2, hv, hb, hc⟩ := int_at HO.out hjh
            injection hv with e1 e2 e3
            injection e1 with e1
            injection e1 with e1 e4
            subst e1 e4
            have HC2 : Hid (∀ wq, Below W.heap.size W wq → wq.cell? ⟨b, off + j, none⟩ = some (vi order[j])) := Lib.hid fun wq h1 => (h1.cell (p := ⟨b, off + j, none⟩) hb).trans hc
            clear hb hc e2 e3
            have hji : (j : Int) < k := by omega
            have hjn : (j : Int) < order.length := by omega
            have hj0 : (0 : Int) ≤ (j : Int) := by omega
            have HSN : Hid (¬ order[j] = x → x ∉ order.take (j + 1)) := Lib.hid fun h1 h2 => by
              rw [List.take_succ_eq_append_getElem hjh] at h2
              rcases List.mem_append.1 h2 with h3 | h3
              · exact HQ.out h3
              · exact h1 (List.mem_singleton.1 h3).symm
            have HDP : Hid (order[j] = x → res = false) := Lib.hid fun h1 => HD1.out j hjk (by rw [List.getElem?_eq_getElem hjh, h1])
            generalize order[j] = y at *
            go_wp2_with fail
            by_cases hc : y = x
            · have ec := beq_t hc
              have HCC := Lib.hid hc
              clear hc
              refine region_left [.is (.slice (some ⟨b, off, none⟩) order.length cap), .is (.int .i64 j), .is (.pointer (some ⟨b, off + j, none⟩)), .is (.int .i64 y), .is (.slice (some ⟨b, off, none⟩) order.length cap), .is (.int .i64 k), .is (.pointer (some ⟨b, off + k, none⟩)), .is (.int .i64 x), .is (.bool true)] (by kernel_rfl) rfl (by kernel_rfl) (by kernel_rfl) (.cons ?q1_0 (.cons ?q1_1 (.cons ?q1_2 (.cons ?q1_3 (.cons ?q1_4 (.cons ?q1_5 (.cons ?q1_6 (.cons ?q1_7 (.cons ?q1_8 .nil))))))))) ?q1_fin
              case q1_0 =>
                intro wq hbw st  K hK
                have KQ := KW.out.trans (hbw.mono KW.out.size)
                simp only [Act.put, List.setIfInBounds_toArray, List.set_cons_zero, List.set_cons_succ] at hK ⊢
                unfold opStep
                rw [if_pos (by rfl)]
                go_simp
                exact hK.out _ _ (Below.refl _ _) rfl _ rfl
              case q1_1 =>
                intro wq hbw st  K hK
                have KQ := KW.out.trans (hbw.mono KW.out.size)
                simp only [Act.put, List.setIfInBounds_toArray, List.set_cons_zero, List.set_cons_succ] at hK ⊢
                unfold opStep
                rw [if_pos (by rfl)]
                go_simp
                exact hK.out _ _ (Below.refl _ _) rfl _ rfl
              case q1_2 =>
                intro wq hbw st  K hK
                have KQ := KW.out.trans (hbw.mono KW.out.size)
                simp only [Act.put, List.setIfInBounds_toArray, List.set_cons_zero, List.set_cons_succ] at hK ⊢
                unfold opStep
                rw [if_pos (by rfl)]
                go_simp
                exact hK.out _ _ (Below.refl _ _) rfl _ rfl
              case q1_3 =>
                intro wq hbw st  K hK
                have KQ := KW.out.trans (hbw.mono KW.out.size)
                simp only [Act.put, List.setIfInBounds_toArray, List.set_cons_zero, List.set_cons_succ] at hK ⊢
                unfold opStep
                rw [if_pos (by rfl)]
                have hcc := HC2.out wq KQ
                unfold vi at hcc
                go_simp
                exact hK.out _ _ (Below.refl _ _) rfl _ rfl
              case q1_4 =>
                intro wq hbw st  K hK
                have KQ := KW.out.trans (hbw.mono KW.out.size)
                simp only [Act.put, List.setIfInBounds_toArray, List.set_cons_zero, List.set_cons_succ] at hK ⊢
                unfold opStep
                rw [if_pos (by rfl)]
                go_simp
                exact hK.out _ _ (Below.refl _ _) rfl _ rfl
              case q1_5 =>
                intro wq hbw st  K hK
                have KQ := KW.out.trans (hbw.mono KW.out.size)
                simp only [Act.put, List.setIfInBounds_toArray, List.set_cons_zero, List.set_cons_succ] at hK ⊢
                unfold opStep
                rw [if_pos (by rfl)]
                go_simp
                exact hK.out _ _ (Below.refl _ _) rfl _ rfl
              case q1_6 =>
                intro wq hbw st  K hK
                have KQ := KW.out.trans (hbw.mono KW.out.size)
                simp only [Act.put, List.setIfInBounds_toArray, List.set_cons_zero, List.set_cons_succ] at hK ⊢
                unfold opStep
                rw [if_pos (by rfl)]
                go_simp
                exact hK.out _ _ (Below.refl _ _) rfl _ rfl
              case q1_7 =>
                intro wq hbw st  K hK
                have KQ := KW.out.trans (hbw.mono KW.out.size)
                simp only [Act.put, List.setIfInBounds_toArray, List.set_cons_zero, List.set_cons_succ] at hK ⊢
                unfold opStep
                rw [if_pos (by rfl)]
                have hcc := HC.out wq KQ
                unfold vi at hcc
                go_simp
                exact hK.out _ _ (Below.refl _ _) rfl _ rfl
              case q1_8 =>
                intro wq hbw st  K hK
                have KQ := KW.out.trans (hbw.mono KW.out.size)
                simp only [Act.put, List.setIfInBounds_toArray, List.set_cons_zero, List.set_cons_succ] at hK ⊢
                unfold opStep
                rw [if_pos (by rfl)]
                go_simp
                exact hK.out _ _ (Below.refl _ _) rfl _ rfl
              case q1_fin =>
                intro wq hbw
                try simp only [FinAll]
                simp only [Act.put, List.setIfInBounds_toArray, List.set_cons_zero, List.set_cons_succ]
                replace KW := Lib.hid (KW.out.trans (hbw.mono KW.out.size))
                clear hbw
                go_wp2
                go_ret
                exact ⟨ret_bool (HDP.out HCC.out).symm, KW.out⟩
            · have ec := beq_f hc
              have HCC := Lib.hid hc
              clear hc
              refine region_left [.is (.slice (some ⟨b, off, none⟩) order.length cap), .is (.int .i64 j), .is (.pointer (some ⟨b, off + j, none⟩)), .is (.int .i64 y), .is (.slice (some ⟨b, off, none⟩) order.length cap), .is (.int .i64 k), .is (.pointer (some ⟨b, off + k, none⟩)), .is (.int .i64 x), .is (.bool false)] (by kernel_rfl) rfl (by kernel_rfl) (by kernel_rfl) (.cons ?q2_0 (.cons ?q2_1 (.cons ?q2_2 (.cons ?q2_3 (.cons ?q2_4 (.cons ?q2_5 (.cons ?q2_6 (.cons ?q2_7 (.cons ?q2_8 .nil))))))))) ?q2_fin
              case q2_0 =>
                intro wq hbw st  K hK
                have KQ := KW.out.trans (hbw.mono KW.out.size)
                simp only [Act.put, List.setIfInBounds_toArray, List.set_cons_zero, List.set_cons_succ] at hK ⊢
                unfold opStep
                rw [if_pos (by rfl)]
                go_simp
                exact hK.out _ _ (Below.refl _ _) rfl _ rfl
              case q2_1 =>
                intro wq hbw st  K hK
                have KQ := KW.out.trans (hbw.mono KW.out.size)
                simp only [Act.put, List.setIfInBounds_toArray, List.set_cons_zero, List.set_cons_succ] at hK ⊢
                unfold opStep
                rw [if_pos (by rfl)]
                go_simp
                exact hK.out _ _ (Below.refl _ _) rfl _ rfl
              case q2_2 =>
                intro wq hbw st  K hK
                have KQ := KW.out.trans (hbw.mono KW.out.size)
                simp only [Act.put, List.setIfInBounds_toArray, List.set_cons_zero, List.set_cons_succ] at hK ⊢
                unfold opStep
                rw [if_pos (by rfl)]
                go_simp
                exact hK.out _ _ (Below.refl _ _) rfl _ rfl
              case q2_3 =>
                intro wq hbw st  K hK
                have KQ := KW.out.trans (hbw.mono KW.out.size)
                simp only [Act.put, List.setIfInBounds_toArray, List.set_cons_zero, List.set_cons_succ] at hK ⊢
                unfold opStep
                rw [if_pos (by rfl)]
                have hcc := HC2.out wq KQ
                unfold vi at hcc
                go_simp
                exact hK.out _ _ (Below.refl _ _) rfl _ rfl
              case q2_4 =>
                intro wq hbw st  K hK
                have KQ := KW.out.trans (hbw.mono KW.out.size)
                simp only [Act.put, List.setIfInBounds_toArray, List.set_cons_zero, List.set_cons_succ] at hK ⊢
                unfold opStep
                rw [if_pos (by rfl)]
                go_simp
                exact hK.out _ _ (Below.refl _ _) rfl _ rfl
              case q2_5 =>
                intro wq hbw st  K hK
                have KQ := KW.out.trans (hbw.mono KW.out.size)
                simp only [Act.put, List.setIfInBounds_toArray, List.set_cons_zero, List.set_cons_succ] at hK ⊢
                unfold opStep
                rw [if_pos (by rfl)]
                go_simp
                exact hK.out _ _ (Below.refl _ _) rfl _ rfl
              case q2_6 =>
                intro wq hbw st  K hK
                have KQ := KW.out.trans (hbw.mono KW.out.size)
                simp only [Act.put, List.setIfInBounds_toArray, List.set_cons_zero, List.set_cons_succ] at hK ⊢
                unfold opStep
                rw [if_pos (by rfl)]
                go_simp
                exact hK.out _ _ (Below.refl _ _) rfl _ rfl
              case q2_7 =>
                intro wq hbw st  K hK
                have KQ := KW.out.trans (hbw.mono KW.out.size)
                simp only [Act.put, List.setIfInBounds_toArray, List.set_cons_zero, List.set_cons_succ] at hK ⊢
                unfold opStep
                rw [if_pos (by rfl)]
                have hcc := HC.out wq KQ
                unfold vi at hcc
                go_simp
                exact hK.out _ _ (Below.refl _ _) rfl _ rfl
              case q2_8 =>
                intro wq hbw st  K hK
                have KQ := KW.out.trans (hbw.mono KW.out.size)
                simp only [Act.put, List.setIfInBounds_toArray, List.set_cons_zero, List.set_cons_succ] at hK ⊢
                unfold opStep
                rw [if_pos (by rfl)]
                go_simp
                exact hK.out _ _ (Below.refl _ _) rfl _ rfl
              case q2_fin =>
                intro wq hbw
                try simp only [FinAll]
                simp only [Act.put, List.setIfInBounds_toArray, List.set_cons_zero, List.set_cons_succ]
                replace KW := Lib.hid (KW.out.trans (hbw.mono KW.out.size))
                clear hbw
                go_wp2
                go_roundg (k - (j + 1))
                case measure => have := HM2.out; omega
                case rel => exact ⟨j + 1, by omega, by go_num, HSN.out HCC.out, KW.out⟩
          · have hjj : j = k := by omega
            subst hjj
            have HNX : Hid (indB n (order.take (j + 1)) = true) := Lib.hid (HS1.out HX.out HQ.out)
            go_wp2
            go_roundg (order.length - (j + 1))
            case measure => have := HM.out; omega
            case rel => exact ⟨j + 1, by omega, by go_num, HNX.out, KW.out⟩
      · have hxn' : (n : Int) ≤ x := by omega
        go_wp2
        go_ret
        exact ⟨ret_bool (HB1.out (by omega)).symm, KW.out⟩
    · have HKK : Hid (k = order.length) := Lib.hid (by omega)
      go_wp2
      go_ret
      exact ⟨ret_bool (HEND.out k HKK.out HP.out).symm, KW.out⟩
    end Go.Proofs.Ytnpfalloelmflaa
