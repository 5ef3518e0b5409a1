/-
  Chapter 02: the reference's Parse: the walk.
-/
import Derived.Test.YtgolodpihmdmoaaNo
namespace Go.Proofs.Ytgolodpihmdmoaa
open Go.RowKit Go.Sort

theorem byte_c {s : ByteArray} {k : Nat} {c : UInt8} (h : k < s.size) (hc : byteAt s.data.toList k = c) : s[k] = c := by rw [← hc, byte_at s k h]

set_option maxRecDepth 100000 in
set_option maxHeartbeats 4000000 in
theorem rparse_any (s : ByteArray) (w : World) (hs : s.size ≤ 1000000) :
    Calls Try.prog 21 #[.string s] w (ParseMade w (parseL s.data.toList)) := by
  obtain ⟨i0, hinf, hz0, hz1, hz2⟩ := info_parts Try.infoStr
  have HI := Lib.hid (And.intro hinf (And.intro hz0 (And.intro hz1 hz2)))
  clear hinf hz0 hz1 hz2
  have hsm : s.size ≤ maxLen := by unfold maxLen; omega
  have hle : skipL s.data.toList 0 ≤ s.size := skip_le (l := s.data.toList) (Nat.zero_le _)
  have hP := parseL_finish s.data.toList
  have hsk0 := skip_any s 0 0 w rfl hsm (Nat.zero_le _)
  have hM := fun (h : skipL s.data.toList 0 + 1 ≤ s.size) => show membersL s.data.toList (skipL s.data.toList 0 + 1) = _ from rfl
  generalize hjj : skipL s.data.toList 0 = j at *
  have HSK := Lib.hid hsk0
  have HP := Lib.hid hP
  clear hP hsk0 hM hjj
  by_cases hlt : j < s.size
  · by_cases hc : byteAt s.data.toList j = 123
    · have hb := byte_c hlt hc
      have hB1 : ((s[j].toNat : Int) == 123) = true := byte_eq (d := 123) hb
      have hB2 : ((s[j].toNat : Int) != 123) = false := by show (!((s[j].toNat : Int) == 123)) = false; rw [hB1]; rfl
      have hE : ((j : Int) == (s.size : Int)) = false := beq_eq_false_iff_ne.2 (by omega)
      have HP2 : Hid (parseL s.data.toList = finish s.data.toList (membersL s.data.toList (j + 1))) := by
        have := HP.out
        rw [if_pos hc] at this
        exact this
      have hsk1 := skip_any s (j + 1) ((j : Int) + 1) w (by omega) hsm (by omega)
      have hle2 : skipL s.data.toList (j + 1) ≤ s.size := skip_le (l := s.data.toList) (show j + 1 ≤ s.data.toList.length from hlt)
      have hss : skipL s.data.toList (skipL s.data.toList (j + 1)) = skipL s.data.toList (j + 1) := skip_skip _ _ hlt
      have hML : membersL s.data.toList (j + 1) = if byteAt s.data.toList (skipL s.data.toList (j + 1)) = 125 then ([], 0, skipL s.data.toList (j + 1) + 1) else membersF (s.size + 1 - skipL s.data.toList (j + 1)) s.data.toList (skipL s.data.toList (j + 1)) [] := rfl
      generalize skipL s.data.toList (j + 1) = k at *
      have HSK1 := Lib.hid hsk1
      have HML := Lib.hid (And.intro hML hss)
      clear hML hss hsk1 hb hc HP
      have HK0 : Hid True := trivial
      by_cases h125 : k < s.size ∧ byteAt s.data.toList k = 125
      · obtain ⟨hk, hc⟩ := h125
        have hb := byte_c hk hc
        have hB3 : ((s[k].toNat : Int) == 125) = true := byte_eq (d := 125) hb
        have HR : Hid (parseL s.data.toList = finish s.data.toList ([], 0, k + 1)) := by
          rw [HP2.out, HML.out.1, if_pos hc]; rfl
        clear hb hc
        go_enter Try.func21, Try.ntmps21
        go_wp2_with fail
        refine HSK.out.mono ?_
        rintro e w1 ⟨rfl, rfl⟩
        go_wp2_with fail
        refine HSK1.out.mono ?_
        rintro e w1 ⟨rfl, rfl⟩
        go_wp2_with fail
        refine (end_any s (k + 1) _ _ [] _ (by omega) hs (by omega) (Reads.of_owns (base := w.heap.size) (e := 9) (n := 0) (World.ownsRow_made w #[] 0 (Nat.le_refl _) (Nat.zero_le _) rfl)) (by simp)).mono ?_
        rintro e w1 ⟨v1, rfl, hr1, hb1⟩
        have H1 := Lib.hid (And.intro hr1 hb1)
        clear hr1 hb1
        go_wp2
        go_ret3
        rw [HR.out]
        exact ⟨_, rfl, H1.out.1, ((Below.refl _ _).alloc (Nat.le_refl _) _).trans (H1.out.2.mono (by simp))⟩
      · have HR0 : Hid (parseL s.data.toList = finish s.data.toList (membersF (s.size + 1 - k) s.data.toList k [])) := by
          rw [HP2.out, HML.out.1, if_neg]
          · rfl
          · intro h
            exact h125 ⟨by have := byteAt_lt (l := s.data.toList) (i := k) (by rw [h]; decide); simpa using this, h⟩
        have hgd : (k < s.size → byteAt s.data.toList k ≠ 125) := fun h e => h125 ⟨h, e⟩
        have HGD := Lib.hid hgd
        clear h125 hgd
        generalize hRR : parseL s.data.toList = RR at *
        clear hRR HP2
        have HL := Lib.hid (And.intro HR0.out HML.out.2)
        clear HR0 HML
        by_cases hk : k < s.size
        · have hBk : ((s[k].toNat : Int) == 125) = false := byte_ne (d := 125) (fun e => HGD.out hk (by rw [byte_at s k hk, e]))
          go_enter Try.func21, Try.ntmps21
          go_wp2_with fail
          refine HSK.out.mono ?_
          rintro e w1 ⟨rfl, rfl⟩
          go_wp2_with fail
          refine HSK1.out.mono ?_
          rintro e w1 ⟨rfl, rfl⟩
          go_wp2
          clear hBk hB1 hB2 hE
          go_loopg [5, 6] (s.size + 1 - k) (fun m at' v wr => ∃ (p : Nat) (out : List Str), s.size + 1 ≤ m + p ∧ p ≤ s.size ∧ out.length ≤ p ∧ at' = .int .i64 p ∧ skipL s.data.toList p = p ∧ finish s.data.toList (membersF m s.data.toList p out) = RR ∧ wr.ownsRow w.heap.size 9 1 v out.length (out.map vs) ∧ Below w.heap.size w wr)
          case atStart => exact ⟨k, [], by omega, hle2, by simp, rfl, HL.out.2, HL.out.1.symm, World.ownsRow_made w #[] 0 (Nat.le_refl _) (Nat.zero_le _) rfl, (Below.refl _ _).alloc (Nat.le_refl _) _⟩
          case round =>
            clear HL HGD HSK HSK1
            obtain ⟨p, out, hm, hp, hol, rfl, hps, hF, hown, hbel⟩ := hrel
            have HX := Lib.hid (And.intro hm (And.intro hol (And.intro hps (And.intro hF (And.intro hown hbel)))))
            clear hm hps hF hown hbel
            go_wp2
            obtain ⟨wo, hwo⟩ : ∃ wo : World, wo = wr := ⟨_, rfl⟩
            subst hwo
            obtain ⟨G, hG⟩ : ∃ G : Nat, G = gk := ⟨_, rfl⟩
            subst hG
            go_loopg [7] (s.size - p) (fun m n wr2 => ∃ q : Nat, m + q = s.size ∧ p ≤ q ∧ q ≤ s.size ∧ n = .int .i64 q ∧ wordEnd s.data.toList q = wordEnd s.data.toList p ∧ wr2 = wo)
            case atStart => exact ⟨p, by omega, Nat.le_refl _, hp, rfl, rfl, rfl⟩
            case round =>
              obtain ⟨q, hmq, hpq, hq, rfl, hwe, rfl⟩ := hrel
              have HQ := Lib.hid (And.intro hmq hwe)
              clear hmq hwe
              have hlet := fun (h : q < s.size) => letter_any s[q] wr
              by_cases hgo : ∃ h : q < s.size, wb s[q] = true
              · obtain ⟨hlt2, hb⟩ := hgo
                have hl := hlet hlt2
                rw [hb] at hl
                have HLT := Lib.hid hl
                have HB := Lib.hid hb
                clear hl hb hlet
                go_wp2_with fail
                refine HLT.out.mono ?_
                rintro e w3 ⟨rfl, rfl⟩
                go_wp2
                go_roundg (s.size - (q + 1))
                case measure => have := HQ.out.1; omega
                case rel => exact ⟨q + 1, by omega, by omega, by omega, by go_num, by rw [word_step hlt2 HB.out]; exact HQ.out.2, rfl⟩
              · have hstop : wordEnd s.data.toList p = q := by
                  rw [← HQ.out.2]
                  by_cases h : q < s.size
                  · exact word_stop h (by
                      by_cases hb : wb s[q] = true
                      · exact absurd ⟨h, hb⟩ hgo
                      · simpa using hb)
                  · exact word_end (by omega)
                have HST := Lib.hid hstop
                have hwf : ∀ h : q < s.size, wb s[q] = false := fun h => by
                  by_cases hb : wb s[q] = true
                  · exact absurd ⟨h, hb⟩ hgo
                  · simpa using hb
                have hlet2 : ∀ h : q < s.size, Calls Try.prog 38 #[.int .u8 (s[q].toNat : Int)] wr fun e w' => e = .returned (.bool false) ∧ wr = w' := fun h => by
                  have := hlet h
                  rwa [hwf h] at this
                clear hwf
                have HLT := Lib.hid hlet2
                clear hlet hgo hstop hlet2
                by_cases hqp : q = p
                · have hE : ((q : Int) == (p : Int)) = true := beq_iff_eq.2 (by omega)
                  have hR : Hid (RR = ([], (p : Int), (2 : Int))) := by
                    obtain ⟨hm, _, hps, hF, _⟩ := HX.out
                    cases G with
                    | zero => omega
                    | succ f =>
                      have hw : ¬ wb (byteAt s.data.toList p) = true := by
                        intro hb
                        rcases Nat.lt_or_ge p s.size with h | h
                        · rw [byte_at s p h] at hb
                          have := word_step h hb
                          have h2 := wordEnd_ge s.data.toList (p + 1)
                          have h3 := HST.out
                          omega
                        · rw [byte_end s p h] at hb; exact absurd hb (by decide)
                      rw [← hF, membersF, hps, if_neg hw]; rfl
                  by_cases hlt2 : q < s.size
                  · have HL2 := Lib.hid (HLT.out hlt2)
                    clear hqp HLT
                    go_wp2_with fail
                    refine HL2.out.mono ?_
                    rintro e w3 ⟨rfl, rfl⟩
                    go_wp2
                    go_ret3
                    rw [hR.out]
                    exact ⟨_, rfl, Reads.nil _, HX.out.2.2.2.2.2⟩
                  · clear hqp HLT
                    go_wp2
                    go_ret3
                    rw [hR.out]
                    exact ⟨_, rfl, Reads.nil _, HX.out.2.2.2.2.2⟩
                · have hE : ((q : Int) == (p : Int)) = false := beq_eq_false_iff_ne.2 (by omega)
                  have hw : wb (byteAt s.data.toList p) = true := by
                    by_cases hb : wb (byteAt s.data.toList p) = true
                    · exact hb
                    · exfalso
                      have hb' : wb (byteAt s.data.toList p) = false := by simpa using hb
                      have := HST.out
                      rcases Nat.lt_or_ge p s.size with h | h
                      · rw [byte_at s p h] at hb'
                        rw [word_stop h hb'] at this
                        omega
                      · rw [word_end h] at this
                        omega
                  obtain ⟨wd, hwd⟩ : ∃ wd, wd = wordAt s.data.toList p := ⟨_, rfl⟩
                  have hex : s.extract p q = toB wd := by
                    rw [hwd, ← HST.out]; exact extract_word s p
                  have HEX : Hid ((s.extract p q).data.toList = wd ∧ vs wd = Value.string (s.extract p q) ∧ (s.extract p q).size ≤ 1000000) := by
                    rw [hex]
                    refine ⟨data_toB wd, rfl, ?_⟩
                    rw [size_toB, hwd]
                    unfold wordAt
                    have := (List.takeWhile_sublist wb (l := s.data.toList.drop p)).length_le
                    simp at this; omega
                  have hval := rvalid_any (s.extract p q) wr (by have := HEX.out.2.2; unfold maxLen; omega)
                  rw [HEX.out.1] at hval
                  have HFU : Hid (∃ f, G = f + 1 ∧ s.size + 1 ≤ f + 1 + p) := by
                    have := HX.out.1
                    cases G with
                    | zero => omega
                    | succ f => exact ⟨f, rfl, this⟩
                  have HRR : Hid (RR = finish s.data.toList (if validL wd = true ∧ wd ∉ out then
                      (if byteAt s.data.toList (skipL s.data.toList q) = 44 then membersF (G - 1) s.data.toList (skipL s.data.toList q + 1) (out ++ [wd]) else if byteAt s.data.toList (skipL s.data.toList q) = 125 then (out ++ [wd], 0, skipL s.data.toList q + 1) else ([], 2, skipL s.data.toList q)) else ([], 3, p))) := by
                    obtain ⟨hm, _, hps, hF, _⟩ := HX.out
                    obtain ⟨f, hG, _⟩ := HFU.out
                    subst hG
                    rw [← hF, membersF, hps, if_pos hw, ← hwd, HST.out]; rfl
                  clear hqp hw hwd hex
                  by_cases hlt2 : q < s.size
                  · have HL2 := Lib.hid (HLT.out hlt2)
                    clear HLT
                    go_wp2_with fail
                    refine HL2.out.mono ?_
                    rintro e w3 ⟨rfl, rfl⟩
                    by_cases hv : validL wd = true
                    · rw [hv] at hval
                      have HV := Lib.hid hval
                      have HVV := Lib.hid hv
                      clear hval hv
                      have hh := rhas_any u6 out wd wr (Reads.of_owns HX.out.2.2.2.2.1)
                      rw [show vs wd = Value.string (s.extract p q) from HEX.out.2.1] at hh
                      by_cases hmem : wd ∈ out
                      · have HR : Hid (RR = ([], (p : Int), (3 : Int))) := by
                          rw [HRR.out, if_neg (by simp [hmem])]; rfl
                        rw [decide_eq_true hmem] at hh
                        have HH := Lib.hid hh
                        clear hh hmem
                        go_wp2_with fail
                        refine HV.out.mono ?_
                        rintro e w3 ⟨rfl, rfl⟩
                        go_wp2_with fail
                        refine HH.out.mono ?_
                        rintro e w3 ⟨rfl, rfl⟩
                        go_wp2
                        go_ret3
                        rw [HR.out]
                        exact ⟨_, rfl, Reads.nil _, HX.out.2.2.2.2.2⟩
                      · have HM := Lib.hid hmem
                        rw [decide_eq_false hmem] at hh
                        have HH := Lib.hid hh
                        clear hh hmem
                        go_wp2_with fail
                        refine HV.out.mono ?_
                        rintro e w3 ⟨rfl, rfl⟩
                        go_wp2_with fail
                        refine HH.out.mono ?_
                        rintro e w3 ⟨rfl, rfl⟩
                        have hob : out.length ≤ 1000000 := by have := HX.out.2.1; omega
                        go_wp2_with (at_builtin; refine wpList_append_own _ rfl _ _ 24 rfl w.heap.size 9 i0 (.string ⟨#[]⟩) 1 16 Try.underlying24 HI.out.1 HI.out.2.1 HI.out.2.2.1 HI.out.2.2.2 rfl (by decide) _ _ _ rfl (by exact HX.out.2.2.2.2.1.alloc _) ⟨_, 0, none⟩ 1 1 [.string (s.extract p q)] rfl rfl ?q1 ?q2 ?q3 ?q4 ?q5 ?_)
                        case q1 => exact cell_one_new _ _ _
                        case q2 => intro u hu; simp at hu; subst hu; rfl
                        case q3 => unfold maxLen; omega
                        case q4 => omega
                        case q5 => have := HX.out.2.2.2.2.2.size; simp; omega
                        intro v3 w3 hown3 hgr3 _
                        rw [show Value.string (s.extract p q) = .string (toB wd) from HEX.out.2.1.symm] at hown3
                        have H3 := Lib.hid (append_keep HX.out.2.2.2.2.1 HX.out.2.2.2.2.2 (by exact hgr3) hown3)
                        clear hown3 hgr3
                        have hsk := skip_any s q q w3 rfl hsm hq
                        have hk2 : skipL s.data.toList q ≤ s.size := skip_le (l := s.data.toList) hq
                        have hge2 := skip_ge s.data.toList q
                        generalize hkk : skipL s.data.toList q = k2 at *
                        have HSK := Lib.hid hsk
                        clear hsk
                        have HR1 : Hid (∃ f, G = f + 1 ∧ s.size + 1 ≤ f + 1 + p ∧ RR = finish s.data.toList (if byteAt s.data.toList k2 = 44 then membersF f s.data.toList (k2 + 1) (out ++ [wd]) else if byteAt s.data.toList k2 = 125 then (out ++ [wd], 0, k2 + 1) else ([], 2, k2))) := by
                          obtain ⟨f, hG, hf⟩ := HFU.out
                          subst hG
                          refine ⟨f, rfl, hf, ?_⟩
                          rw [HRR.out, if_pos ⟨HVV.out, HM.out⟩]; rfl
                        clear hkk
                        go_wp2_with fail
                        refine HSK.out.mono ?_
                        rintro e w4 ⟨rfl, rfl⟩
                        by_cases hl2 : k2 < s.size
                        · have hE2 : ((k2 : Int) == (s.size : Int)) = false := beq_eq_false_iff_ne.2 (by omega)
                          by_cases h44 : byteAt s.data.toList k2 = 44
                          · have hb := byte_c hl2 h44
                            have hC1 : ((s[k2].toNat : Int) == 44) = true := byte_eq (d := 44) hb
                            have hC2 : ((s[k2].toNat : Int) != 44) = false := by show (!((s[k2].toNat : Int) == 44)) = false; rw [hC1]; rfl
                            have hC3 : ((s[k2].toNat : Int) == 125) = false := by rw [hb]; rfl
                            have hsk2 := skip_any s (k2 + 1) ((k2 : Int) + 1) w3 (by omega) hsm (by omega)
                            have hk3 : skipL s.data.toList (k2 + 1) ≤ s.size := skip_le (l := s.data.toList) (show k2 + 1 ≤ s.data.toList.length from hl2)
                            have hge3 := skip_ge s.data.toList (k2 + 1)
                            have hss3 := skip_skip s.data.toList (k2 + 1) hl2
                            have hms := fun f => membersF_skip f s.data.toList (k2 + 1) (out ++ [wd]) hl2
                            generalize skipL s.data.toList (k2 + 1) = k3 at *
                            have HSK2 := Lib.hid hsk2
                            have H44 := Lib.hid (And.intro h44 (And.intro hss3 hms))
                            clear hsk2 h44 hss3 hms hb
                            go_wp2_with fail
                            refine HSK2.out.mono ?_
                            rintro e w4 ⟨rfl, rfl⟩
                            go_wp2
                            go_roundg (G - 1)
                            case measure => obtain ⟨f, rfl, _⟩ := HFU.out; omega
                            case rel =>
                              obtain ⟨f, rfl, hf, hR⟩ := HR1.out
                              rw [if_pos H44.out.1] at hR
                              have hol2 := HX.out.2.1
                              exact ⟨k3, out ++ [wd], by omega, by omega, by simp; omega, rfl, H44.out.2.1, by rw [hR, ← H44.out.2.2]; rfl, H3.out.1, H3.out.2⟩
                          · have hb : s[k2] ≠ 44 := fun e => h44 (by rw [byte_at s k2 hl2, e])
                            have hC1 : ((s[k2].toNat : Int) == 44) = false := byte_ne (d := 44) hb
                            have hC2 : ((s[k2].toNat : Int) != 44) = true := by show (!((s[k2].toNat : Int) == 44)) = true; rw [hC1]; rfl
                            by_cases h125 : byteAt s.data.toList k2 = 125
                            · have hb2 := byte_c hl2 h125
                              have hC3 : ((s[k2].toNat : Int) == 125) = true := byte_eq (d := 125) hb2
                              have hC4 : ((s[k2].toNat : Int) != 125) = false := by show (!((s[k2].toNat : Int) == 125)) = false; rw [hC3]; rfl
                              have HR : Hid (RR = finish s.data.toList (out ++ [wd], 0, k2 + 1)) := by
                                obtain ⟨f, _, _, hR⟩ := HR1.out
                                rw [if_neg h44, if_pos h125] at hR
                                exact hR
                              clear hb hb2 h44 h125
                              go_wp2_with fail
                              refine (end_any s (k2 + 1) _ _ (out ++ [wd]) _ (by omega) hs (by omega) (Reads.of_owns H3.out.1) (by simp; have := HX.out.2.1; omega)).mono ?_
                              rintro e w5 ⟨v5, rfl, hr5, hb5⟩
                              have H5 := Lib.hid (And.intro hr5 hb5)
                              clear hr5 hb5
                              go_wp2
                              go_ret3
                              rw [HR.out]
                              exact ⟨_, rfl, H5.out.1, H3.out.2.trans (H5.out.2.mono H3.out.2.size)⟩
                            · have hb2 : s[k2] ≠ 125 := fun e => h125 (by rw [byte_at s k2 hl2, e])
                              have hC3 : ((s[k2].toNat : Int) == 125) = false := byte_ne (d := 125) hb2
                              have hC4 : ((s[k2].toNat : Int) != 125) = true := by show (!((s[k2].toNat : Int) == 125)) = true; rw [hC3]; rfl
                              have HR : Hid (RR = ([], (k2 : Int), (2 : Int))) := by
                                obtain ⟨f, _, _, hR⟩ := HR1.out
                                rw [if_neg h44, if_neg h125] at hR
                                exact hR
                              clear hb hb2 h44 h125
                              go_wp2
                              go_ret3
                              rw [HR.out]
                              exact ⟨_, rfl, Reads.nil _, H3.out.2⟩
                        · have hE2 : ((k2 : Int) == (s.size : Int)) = true := beq_iff_eq.2 (by omega)
                          have HR : Hid (RR = ([], (k2 : Int), (2 : Int))) := by
                            obtain ⟨f, _, _, hR⟩ := HR1.out
                            rw [byte_end s k2 (by omega), if_neg (by decide), if_neg (by decide)] at hR
                            exact hR
                          go_wp2
                          go_ret3
                          rw [HR.out]
                          exact ⟨_, rfl, Reads.nil _, H3.out.2⟩
                    · have hv' : validL wd = false := by simpa using hv
                      rw [hv'] at hval
                      have HV := Lib.hid hval
                      have HR : Hid (RR = ([], (p : Int), (3 : Int))) := by
                        rw [HRR.out, if_neg (by simp [hv'])]; rfl
                      clear hval hv hv'
                      go_wp2_with fail
                      refine HV.out.mono ?_
                      rintro e w3 ⟨rfl, rfl⟩
                      go_wp2
                      go_ret3
                      rw [HR.out]
                      exact ⟨_, rfl, Reads.nil _, HX.out.2.2.2.2.2⟩
                  · clear HLT
                    by_cases hv : validL wd = true
                    · rw [hv] at hval
                      have HV := Lib.hid hval
                      have HVV := Lib.hid hv
                      clear hval hv
                      have hh := rhas_any u6 out wd wr (Reads.of_owns HX.out.2.2.2.2.1)
                      rw [show vs wd = Value.string (s.extract p q) from HEX.out.2.1] at hh
                      by_cases hmem : wd ∈ out
                      · have HR : Hid (RR = ([], (p : Int), (3 : Int))) := by
                          rw [HRR.out, if_neg (by simp [hmem])]; rfl
                        rw [decide_eq_true hmem] at hh
                        have HH := Lib.hid hh
                        clear hh hmem
                        go_wp2_with fail
                        refine HV.out.mono ?_
                        rintro e w3 ⟨rfl, rfl⟩
                        go_wp2_with fail
                        refine HH.out.mono ?_
                        rintro e w3 ⟨rfl, rfl⟩
                        go_wp2
                        go_ret3
                        rw [HR.out]
                        exact ⟨_, rfl, Reads.nil _, HX.out.2.2.2.2.2⟩
                      · have HM := Lib.hid hmem
                        rw [decide_eq_false hmem] at hh
                        have HH := Lib.hid hh
                        clear hh hmem
                        go_wp2_with fail
                        refine HV.out.mono ?_
                        rintro e w3 ⟨rfl, rfl⟩
                        go_wp2_with fail
                        refine HH.out.mono ?_
                        rintro e w3 ⟨rfl, rfl⟩
                        have hob : out.length ≤ 1000000 := by have := HX.out.2.1; omega
                        go_wp2_with (at_builtin; refine wpList_append_own _ rfl _ _ 24 rfl w.heap.size 9 i0 (.string ⟨#[]⟩) 1 16 Try.underlying24 HI.out.1 HI.out.2.1 HI.out.2.2.1 HI.out.2.2.2 rfl (by decide) _ _ _ rfl (by exact HX.out.2.2.2.2.1.alloc _) ⟨_, 0, none⟩ 1 1 [.string (s.extract p q)] rfl rfl ?q1 ?q2 ?q3 ?q4 ?q5 ?_)
                        case q1 => exact cell_one_new _ _ _
                        case q2 => intro u hu; simp at hu; subst hu; rfl
                        case q3 => unfold maxLen; omega
                        case q4 => omega
                        case q5 => have := HX.out.2.2.2.2.2.size; simp; omega
                        intro v3 w3 hown3 hgr3 _
                        rw [show Value.string (s.extract p q) = .string (toB wd) from HEX.out.2.1.symm] at hown3
                        have H3 := Lib.hid (append_keep HX.out.2.2.2.2.1 HX.out.2.2.2.2.2 (by exact hgr3) hown3)
                        clear hown3 hgr3
                        have hsk := skip_any s q q w3 rfl hsm hq
                        have hk2 : skipL s.data.toList q ≤ s.size := skip_le (l := s.data.toList) hq
                        have hge2 := skip_ge s.data.toList q
                        generalize hkk : skipL s.data.toList q = k2 at *
                        have HSK := Lib.hid hsk
                        clear hsk
                        have HR1 : Hid (∃ f, G = f + 1 ∧ s.size + 1 ≤ f + 1 + p ∧ RR = finish s.data.toList (if byteAt s.data.toList k2 = 44 then membersF f s.data.toList (k2 + 1) (out ++ [wd]) else if byteAt s.data.toList k2 = 125 then (out ++ [wd], 0, k2 + 1) else ([], 2, k2))) := by
                          obtain ⟨f, hG, hf⟩ := HFU.out
                          subst hG
                          refine ⟨f, rfl, hf, ?_⟩
                          rw [HRR.out, if_pos ⟨HVV.out, HM.out⟩]; rfl
                        clear hkk
                        go_wp2_with fail
                        refine HSK.out.mono ?_
                        rintro e w4 ⟨rfl, rfl⟩
                        by_cases hl2 : k2 < s.size
                        · have hE2 : ((k2 : Int) == (s.size : Int)) = false := beq_eq_false_iff_ne.2 (by omega)
                          by_cases h44 : byteAt s.data.toList k2 = 44
                          · have hb := byte_c hl2 h44
                            have hC1 : ((s[k2].toNat : Int) == 44) = true := byte_eq (d := 44) hb
                            have hC2 : ((s[k2].toNat : Int) != 44) = false := by show (!((s[k2].toNat : Int) == 44)) = false; rw [hC1]; rfl
                            have hC3 : ((s[k2].toNat : Int) == 125) = false := by rw [hb]; rfl
                            have hsk2 := skip_any s (k2 + 1) ((k2 : Int) + 1) w3 (by omega) hsm (by omega)
                            have hk3 : skipL s.data.toList (k2 + 1) ≤ s.size := skip_le (l := s.data.toList) (show k2 + 1 ≤ s.data.toList.length from hl2)
                            have hge3 := skip_ge s.data.toList (k2 + 1)
                            have hss3 := skip_skip s.data.toList (k2 + 1) hl2
                            have hms := fun f => membersF_skip f s.data.toList (k2 + 1) (out ++ [wd]) hl2
                            generalize skipL s.data.toList (k2 + 1) = k3 at *
                            have HSK2 := Lib.hid hsk2
                            have H44 := Lib.hid (And.intro h44 (And.intro hss3 hms))
                            clear hsk2 h44 hss3 hms hb
                            go_wp2_with fail
                            refine HSK2.out.mono ?_
                            rintro e w4 ⟨rfl, rfl⟩
                            go_wp2
                            go_roundg (G - 1)
                            case measure => obtain ⟨f, rfl, _⟩ := HFU.out; omega
                            case rel =>
                              obtain ⟨f, rfl, hf, hR⟩ := HR1.out
                              rw [if_pos H44.out.1] at hR
                              have hol2 := HX.out.2.1
                              exact ⟨k3, out ++ [wd], by omega, by omega, by simp; omega, rfl, H44.out.2.1, by rw [hR, ← H44.out.2.2]; rfl, H3.out.1, H3.out.2⟩
                          · have hb : s[k2] ≠ 44 := fun e => h44 (by rw [byte_at s k2 hl2, e])
                            have hC1 : ((s[k2].toNat : Int) == 44) = false := byte_ne (d := 44) hb
                            have hC2 : ((s[k2].toNat : Int) != 44) = true := by show (!((s[k2].toNat : Int) == 44)) = true; rw [hC1]; rfl
                            by_cases h125 : byteAt s.data.toList k2 = 125
                            · have hb2 := byte_c hl2 h125
                              have hC3 : ((s[k2].toNat : Int) == 125) = true := byte_eq (d := 125) hb2
                              have hC4 : ((s[k2].toNat : Int) != 125) = false := by show (!((s[k2].toNat : Int) == 125)) = false; rw [hC3]; rfl
                              have HR : Hid (RR = finish s.data.toList (out ++ [wd], 0, k2 + 1)) := by
                                obtain ⟨f, _, _, hR⟩ := HR1.out
                                rw [if_neg h44, if_pos h125] at hR
                                exact hR
                              clear hb hb2 h44 h125
                              go_wp2_with fail
                              refine (end_any s (k2 + 1) _ _ (out ++ [wd]) _ (by omega) hs (by omega) (Reads.of_owns H3.out.1) (by simp; have := HX.out.2.1; omega)).mono ?_
                              rintro e w5 ⟨v5, rfl, hr5, hb5⟩
                              have H5 := Lib.hid (And.intro hr5 hb5)
                              clear hr5 hb5
                              go_wp2
                              go_ret3
                              rw [HR.out]
                              exact ⟨_, rfl, H5.out.1, H3.out.2.trans (H5.out.2.mono H3.out.2.size)⟩
                            · have hb2 : s[k2] ≠ 125 := fun e => h125 (by rw [byte_at s k2 hl2, e])
                              have hC3 : ((s[k2].toNat : Int) == 125) = false := byte_ne (d := 125) hb2
                              have hC4 : ((s[k2].toNat : Int) != 125) = true := by show (!((s[k2].toNat : Int) == 125)) = true; rw [hC3]; rfl
                              have HR : Hid (RR = ([], (k2 : Int), (2 : Int))) := by
                                obtain ⟨f, _, _, hR⟩ := HR1.out
                                rw [if_neg h44, if_neg h125] at hR
                                exact hR
                              clear hb hb2 h44 h125
                              go_wp2
                              go_ret3
                              rw [HR.out]
                              exact ⟨_, rfl, Reads.nil _, H3.out.2⟩
                        · have hE2 : ((k2 : Int) == (s.size : Int)) = true := beq_iff_eq.2 (by omega)
                          have HR : Hid (RR = ([], (k2 : Int), (2 : Int))) := by
                            obtain ⟨f, _, _, hR⟩ := HR1.out
                            rw [byte_end s k2 (by omega), if_neg (by decide), if_neg (by decide)] at hR
                            exact hR
                          go_wp2
                          go_ret3
                          rw [HR.out]
                          exact ⟨_, rfl, Reads.nil _, H3.out.2⟩
                    · have hv' : validL wd = false := by simpa using hv
                      rw [hv'] at hval
                      have HV := Lib.hid hval
                      have HR : Hid (RR = ([], (p : Int), (3 : Int))) := by
                        rw [HRR.out, if_neg (by simp [hv'])]; rfl
                      clear hval hv hv'
                      go_wp2_with fail
                      refine HV.out.mono ?_
                      rintro e w3 ⟨rfl, rfl⟩
                      go_wp2
                      go_ret3
                      rw [HR.out]
                      exact ⟨_, rfl, Reads.nil _, HX.out.2.2.2.2.2⟩
        · have HR : Hid (RR = ([], (k : Int), (2 : Int))) := by
            rw [HL.out.1, show s.size + 1 - k = 1 by omega, membersF, HL.out.2, byte_end s k (by omega), if_neg (by decide)]; rfl
          clear HL HGD
          go_enter Try.func21, Try.ntmps21
          go_wp2_with fail
          refine HSK.out.mono ?_
          rintro e w1 ⟨rfl, rfl⟩
          go_wp2_with fail
          refine HSK1.out.mono ?_
          rintro e w1 ⟨rfl, rfl⟩
          have hkk : (k : Int) = (s.size : Int) := by omega
          have hEk : ((k : Int) == (k : Int)) = true := beq_self_eq_true _
          have HKK := Lib.hid hkk
          clear hkk
          go_wp2
          refine wp_loop_rounds 1 ?_
          rw [rounds_succ]
          go_wp2
          refine wp_loop_rounds 1 ?_
          rw [rounds_succ]
          go_wp2
          go_ret3
          rw [HR.out]
          exact ⟨_, rfl, Reads.nil _, (Below.refl _ _).alloc (Nat.le_refl _) _⟩
    · have hb : s[j] ≠ 123 := fun e => hc (by rw [byte_at s j hlt, e])
      have hB1 : ((s[j].toNat : Int) == 123) = false := byte_ne (d := 123) hb
      have hB2 : ((s[j].toNat : Int) != 123) = true := by show (!((s[j].toNat : Int) == 123)) = true; rw [hB1]; rfl
      have hE : ((j : Int) == (s.size : Int)) = false := beq_eq_false_iff_ne.2 (by omega)
      have HR : Hid (parseL s.data.toList = ([], (j : Int), (2 : Int))) := by
        rw [HP.out, if_neg hc]; rfl
      clear hb hc HP
      go_enter Try.func21, Try.ntmps21
      go_wp2_with fail
      refine HSK.out.mono ?_
      rintro e w1 ⟨rfl, rfl⟩
      go_wp2
      go_ret3
      rw [HR.out]
      exact ⟨_, rfl, Reads.nil _, Below.refl _ _⟩
  · have hE : ((j : Int) == (s.size : Int)) = true := beq_iff_eq.2 (by omega)
    have HR : Hid (parseL s.data.toList = ([], (j : Int), (2 : Int))) := by
      rw [HP.out, byte_end s j (by omega), if_neg (by decide)]; rfl
    clear HP
    go_enter Try.func21, Try.ntmps21
    go_wp2_with fail
    refine HSK.out.mono ?_
    rintro e w1 ⟨rfl, rfl⟩
    go_wp2
    go_ret3
    rw [HR.out]
    exact ⟨_, rfl, Reads.nil _, Below.refl _ _⟩
end Go.Proofs.Ytgolodpihmdmoaa
