/-
  Chapter 02: the members of a set's source: the plain function and the walk.
-/
import Derived.Test.YtgolodpihmdmoaaNf
import Derived.Deep.LoopGhost
namespace Go.Proofs.Ytgolodpihmdmoaa
open Go.RowKit Go.Sort

/-- The word that begins at an offset. -/
def wordAt (l : Str) (i : Nat) : Str := (l.drop i).takeWhile wb

theorem extract_toB (s : ByteArray) (i j : Nat) : (s.extract i j).data.toList = (s.data.toList.drop i).take (j - i) := by
  rw [Lib.extract_data]

theorem extract_word (s : ByteArray) (i : Nat) : s.extract i (wordEnd s.data.toList i) = toB (wordAt s.data.toList i) := by
  rw [← toB_data (s.extract i (wordEnd s.data.toList i)), extract_toB]
  congr 1
  unfold wordEnd wordAt
  rw [show ∀ a b : Nat, a + b - a = b from fun a b => by omega]
  exact (List.prefix_iff_eq_take.1 (List.takeWhile_prefix wb)).symm

/-- What the members come to: the words, the code, the offset. -/
def membersF : Nat → Str → Nat → List Str → List Str × Int × Nat
  | 0, _, _, _ => ([], 0, 0)
  | f + 1, l, i, out =>
    if wb (byteAt l (skipL l i)) = true then
      if validL (wordAt l (skipL l i)) = true ∧ wordAt l (skipL l i) ∉ out then
        if byteAt l (skipL l (wordEnd l (skipL l i))) = 44 then membersF f l (skipL l (wordEnd l (skipL l i)) + 1) (out ++ [wordAt l (skipL l i)])
        else if byteAt l (skipL l (wordEnd l (skipL l i))) = 125 then (out ++ [wordAt l (skipL l i)], 0, skipL l (wordEnd l (skipL l i)) + 1)
        else ([], 2, skipL l (wordEnd l (skipL l i)))
      else ([], 3, skipL l i)
    else ([], 2, skipL l i)

def membersL (l : Str) (i : Nat) : List Str × Int × Nat :=
  if byteAt l (skipL l i) = 125 then ([], 0, skipL l i + 1) else membersF (l.length + 1 - skipL l i) l (skipL l i) []

theorem byteAt_lt {l : Str} {i : Nat} (h : byteAt l i ≠ 0) : i < l.length := by
  rcases Nat.lt_or_ge i l.length with h' | h'
  · exact h'
  · exfalso; apply h; unfold byteAt; rw [List.getD_eq_getElem?_getD, List.getElem?_eq_none h']; rfl

theorem byte_ne {c d : UInt8} (h : c ≠ d) : ((c.toNat : Int) == (d.toNat : Int)) = false := beq_eq_false_iff_ne.2 (fun e => h (UInt8.toNat_inj.1 (Int.ofNat.inj e)))
theorem byte_eq {c d : UInt8} (h : c = d) : ((c.toNat : Int) == (d.toNat : Int)) = true := by rw [h]; exact beq_self_eq_true _

def MembersMade (w : World) (bp : Nat) (s : ByteArray) (R : List Str × Int × Nat) (e : Ending) (w' : World) : Prop :=
  ∃ v, e = .returned (.tuple #[v, .int .i64 R.2.1]) ∧ SrcAt w' bp s R.2.2 ∧ w.grownBy w' (some bp) ∧ w'.ownsRow w.heap.size 9 1 v R.1.length (R.1.map vs)

theorem append_step {w wr w1 : World} {bp base n : Nat} {e : TypeId} {xs : List Value} {o : Obj} {v : Value} (hg : w.grownBy wr (some bp)) (hb : w.heap.size ≤ base) (hown : wr.ownsRow base e 1 v n xs) (hgr : (wr.alloc o).grownBy w1 v.ownBlock) : w.grownBy w1 (some bp) := by
  refine ⟨hgr.os.trans hg.os, hgr.tape.trans hg.tape, hgr.output.trans hg.output, Nat.le_trans hg.size (Nat.le_trans (by simp) hgr.size), fun k hk hne => ?_⟩
  rw [hgr.block k (by simp; have := hg.size; omega) (fun e => by have := (hown.lt k e.symm).1; omega), Below.heap_alloc _ _ _ (by have := hg.size; omega)]
  exact hg.block k hk hne

theorem own_ne {w : World} {base e size n bp : Nat} {v : Value} {xs : List Value} (h : w.ownsRow base e size v n xs) (hb : bp < base) : v.ownBlock ≠ some bp := fun e => by have := (h.lt bp e).1; omega

theorem Try.infoStr : (Try.prog.info? 9).map (fun i => (i.zero, i.size, i.bytes)) = some (some (.string ⟨#[]⟩), 1, 16) := by kernel_rfl

theorem members_any (bp : Nat) (s : ByteArray) (i : Nat) (w : World) (hs : s.size ≤ 1000000) (hi : i ≤ s.size) (h : SrcAt w bp s i) :
    Calls Try.prog 41 #[.pointer (some ⟨bp, 0, none⟩)] w (MembersMade w bp s (membersL s.data.toList i)) := by
  have hsm : s.size ≤ maxLen := by unfold maxLen; omega
  have hlt := h.lt
  obtain ⟨i0, hinf, hz0, hz1, hz2⟩ := info_parts Try.infoStr
  have HI := Lib.hid (And.intro hinf (And.intro hz0 (And.intro hz1 hz2)))
  clear hinf hz0 hz1 hz2
  have hj := skip_le (l := s.data.toList) (k := i) hi
  have hj' : skipL s.data.toList i ≤ s.size := hj
  clear hj
  go_enter Try.func41, Try.ntmps41
  go_wp2_with fail
  refine (next_any bp s i w hsm hi h).mono ?_
  rintro e w1 ⟨rfl, hr, hg⟩
  have HG := Lib.hid (And.intro hr hg)
  have c1 := hr.c1
  have f1 := hr.f1
  clear hr hg h
  by_cases hc : byteAt s.data.toList (skipL s.data.toList i) = 125
  · have hR : membersL s.data.toList i = ([], 0, skipL s.data.toList i + 1) := by unfold membersL; rw [if_pos hc]
    have HR := Lib.hid hR
    clear hR
    have hB : (((byteAt s.data.toList (skipL s.data.toList i)).toNat : Int) == 125) = true := by rw [hc]; rfl
    clear hc
    generalize byteAt s.data.toList (skipL s.data.toList i) = cc at *
    generalize skipL s.data.toList i = jj at *
    go_wp2
    go_ret2
    rw [HR.out]
    exact ⟨_, rfl, HG.out.1.set, grown_set HG.out.2 _, World.ownsRow_nil _ _ _ _⟩
  · have hR : membersL s.data.toList i = membersF (s.size + 1 - skipL s.data.toList i) s.data.toList (skipL s.data.toList i) [] := by unfold membersL; rw [if_neg hc]; rfl
    have hB : (((byteAt s.data.toList (skipL s.data.toList i)).toNat : Int) == 125) = false := byte_ne (d := 125) hc
    clear hc
    generalize byteAt s.data.toList (skipL s.data.toList i) = cc at *
    generalize skipL s.data.toList i = jj at *
    generalize hF : membersF (s.size + 1 - jj) s.data.toList jj [] = R at *
    have HL := Lib.hid hR
    have HF := Lib.hid hF
    clear hF hR
    go_wp2
    clear hB c1 f1
    go_loopg [4] (s.size + 1 - jj) (fun m v wr => ∃ (p : Nat) (out : List Str), s.size + 1 ≤ m + p ∧ p ≤ s.size ∧ out.length ≤ p ∧ membersF m s.data.toList p out = R ∧ SrcAt wr bp s p ∧ wr.ownsRow w.heap.size 9 1 v out.length (out.map vs) ∧ w.grownBy wr (some bp))
    case atStart => exact ⟨jj, [], by omega, hj', by simp, HF.out, HG.out.1, World.ownsRow_nil _ _ _ _, HG.out.2⟩
    case round =>
      clear HG HF hj'
      obtain ⟨p, out, hm, hp, hol, hF, hr, hown, hg⟩ := hrel
      have hle : skipL s.data.toList p ≤ s.size := skip_le (l := s.data.toList) (k := p) hp
      have hge := skip_ge s.data.toList p
      have HX := Lib.hid (And.intro hm (And.intro hol (And.intro hF (And.intro hown hg))))
      clear hm hF hown hg hol
      have hbp : bp < wr.heap.size := hr.lt
      go_wp2_with fail
      refine (next_any bp s p _ hsm hp hr).mono ?_
      rintro e w1 ⟨rfl, hr1, hg1⟩
      clear hr
      have H1 := Lib.hid (And.intro hr1 hg1)
      have c1 := hr1.c1
      have f1 := hr1.f1
      clear hr1 hg1
      by_cases hc : wb (byteAt s.data.toList (skipL s.data.toList p)) = true
      · have hq := wordByte_any (byteAt s.data.toList (skipL s.data.toList p))
        rw [hc] at hq
        have HQ := Lib.hid hq
        have HC := Lib.hid hc
        clear hq hc
        have hwle : wordEnd s.data.toList (skipL s.data.toList p) ≤ s.size := wordEnd_le (l := s.data.toList) hle
        have hwge := wordEnd_ge s.data.toList (skipL s.data.toList p)
        have hww := word_any bp s (skipL s.data.toList p) w1 hsm hle H1.out.1
        unfold WordMade at hww
        rw [extract_word] at hww
        have HW := Lib.hid hww
        clear hww
        have hval := valid_any (toB (wordAt s.data.toList (skipL s.data.toList p)))
        rw [data_toB] at hval
        have hws : (toB (wordAt s.data.toList (skipL s.data.toList p))).size ≤ maxLen := by
          rw [size_toB]; unfold wordAt maxLen
          have := (List.takeWhile_sublist wb (l := s.data.toList.drop (skipL s.data.toList p))).length_le
          simp at this; omega
        have hnx := next_any bp s (wordEnd s.data.toList (skipL s.data.toList p))
        have hle2 : skipL s.data.toList (wordEnd s.data.toList (skipL s.data.toList p)) ≤ s.size := skip_le (l := s.data.toList) hwle
        have hge2 := skip_ge s.data.toList (wordEnd s.data.toList (skipL s.data.toList p))
        have HN := Lib.hid (And.intro hval hnx)
        clear hval hnx
        have HF := Lib.hid HX.out.2.2.1
        have HF2 : Hid (∃ f, gk = f + 1 ∧ s.size + 1 ≤ f + 1 + p) := by
          have := HX.out.1
          cases gk with
          | zero => omega
          | succ f => exact ⟨f, rfl, this⟩
        generalize hcc : byteAt s.data.toList (skipL s.data.toList p) = cc at *
        generalize hjj : skipL s.data.toList p = j at *
        generalize hwd : wordAt s.data.toList j = wd at *
        generalize hee : wordEnd s.data.toList j = en at *
        have HE := Lib.hid (And.intro hcc (And.intro hjj (And.intro hwd hee)))
        clear hcc hjj hwd hee
        go_wp2_with fail
        refine (HQ.out _).mono ?_
        rintro e w2 ⟨rfl, rfl⟩
        go_wp2_with fail
        refine HW.out.mono ?_
        rintro e w2 ⟨rfl, hr2, hg2⟩
        have c2 := hr2.c1
        have f2 := hr2.f1
        have hown2 := (HX.out.2.2.2.1.kept H1.out.2 (.inr (own_ne HX.out.2.2.2.1 hlt))).kept hg2 (.inr (own_ne HX.out.2.2.2.1 hlt))
        have H2 := Lib.hid (And.intro hr2 (And.intro hg2 hown2))
        clear hr2 hg2 hown2 c1 f1
        by_cases hv : validL wd = true
        · have hq := HN.out.1 w2 hws
          rw [hv] at hq
          have HV := Lib.hid hq
          have HVV := Lib.hid hv
          clear hv hq
          have hh := has_any _ out wd w2 (Reads.of_owns H2.out.2.2)
          by_cases hmem : wd ∈ out
          · have HR : Hid (R = ([], 3, j)) := by
              obtain ⟨f, rfl, _⟩ := HF2.out
              obtain ⟨e1, e2, e3, e4⟩ := HE.out
              rw [← HF.out, membersF, e2, e1, if_pos HC.out, e3, if_neg (by simp [hmem])]; rfl
            rw [decide_eq_true hmem] at hh
            have HH := Lib.hid hh
            clear hh hmem
            go_wp2_with fail
            refine HV.out.mono ?_
            rintro e w3 ⟨rfl, rfl⟩
            go_wp2_with fail
            refine HH.out.mono ?_
            rintro e w3 ⟨rfl, rfl⟩
            go_wp2
            go_ret2
            rw [HL.out, HR.out]
            exact ⟨_, rfl, H2.out.1.set, grown_set (grown_trans HX.out.2.2.2.2 (grown_trans H1.out.2 H2.out.2.1)) _, World.ownsRow_nil _ _ _ _⟩
          · rw [decide_eq_false hmem] at hh
            have HH := Lib.hid hh
            have HM := Lib.hid hmem
            have hol : out.length ≤ 1000000 := by have := HX.out.2.1; omega
            clear hh hmem
            go_wp2_with fail
            refine HV.out.mono ?_
            rintro e w3 ⟨rfl, rfl⟩
            go_wp2_with fail
            refine HH.out.mono ?_
            rintro e w3 ⟨rfl, rfl⟩
            go_wp2_with (at_builtin; refine wpList_append_own _ rfl _ _ 24 rfl w.heap.size 9 i0 (.string ⟨#[]⟩) 1 16 Try.underlying24 HI.out.1 HI.out.2.1 HI.out.2.2.1 HI.out.2.2.2 rfl (by decide) _ _ _ rfl (H2.out.2.2.alloc _) ⟨w2.heap.size, 0, none⟩ 1 1 [.string (toB wd)] rfl rfl ?q1 ?q2 ?q3 ?q4 ?q5 ?_)
            case q1 => exact cell_one_new _ _ _
            case q2 => intro u hu; simp at hu; subst hu; rfl
            case q3 => unfold maxLen; omega
            case q4 => omega
            case q5 =>
              have h1 := HX.out.2.2.2.2.size
              have h2 := H1.out.2.size
              have h3 := H2.out.2.1.size
              simp; omega
            intro v3 w3 hown3 hgr3 _
            have hr3 : SrcAt w3 bp s en := SrcAt.keep (H2.out.1.keep (World.grownBy_alloc _ _ none) (by simp)) hgr3 (own_ne H2.out.2.2 hlt)
            have hg3 : w.grownBy w3 (some bp) := append_step (grown_trans HX.out.2.2.2.2 (grown_trans H1.out.2 H2.out.2.1)) (Nat.le_refl _) H2.out.2.2 hgr3
            have hx3 : w3.ownsRow w.heap.size 9 1 v3 (out ++ [wd]).length ((out ++ [wd]).map vs) := by
              rw [List.length_append, List.map_append]; exact hown3
            have H3 := Lib.hid (And.intro hr3 (And.intro hg3 hx3))
            clear hr3 hg3 hx3 hown3 hgr3 c2 f2
            have HN3 := Lib.hid (HN.out.2 w3 hsm hwle H3.out.1)
            unfold NextMade at HN3
            generalize hkk : skipL s.data.toList en = k at *
            generalize hdd : byteAt s.data.toList k = dd at *
            have HE2 := Lib.hid (And.intro hkk hdd)
            clear hkk hdd
            have HRR : Hid (∃ f, gk = f + 1 ∧ s.size + 1 ≤ f + 1 + p ∧ R = if dd = 44 then membersF f s.data.toList (k + 1) (out ++ [wd]) else if dd = 125 then (out ++ [wd], 0, k + 1) else ([], 2, k)) := by
              obtain ⟨f, rfl, hf⟩ := HF2.out
              obtain ⟨e1, e2, e3, e4⟩ := HE.out
              refine ⟨f, rfl, hf, ?_⟩
              rw [← HF.out, membersF, e2, e1, if_pos HC.out, e3, if_pos ⟨HVV.out, HM.out⟩, e4, HE2.out.1, HE2.out.2]
            go_wp2_with fail
            refine HN3.out.mono ?_
            rintro e w4 ⟨rfl, hr4, hg4⟩
            have c4 := hr4.c1
            have f4 := hr4.f1
            have hown4 := H3.out.2.2.kept hg4 (.inr (own_ne H3.out.2.2 hlt))
            have H4 := Lib.hid (And.intro hr4 (And.intro hg4 hown4))
            clear hr4 hg4 hown4
            by_cases h44 : dd = 44
            · have hB : ((dd.toNat : Int) == 44) = true := byte_eq (d := 44) h44
              have hkl : k < s.size := by
                have := byteAt_lt (l := s.data.toList) (i := k) (by rw [HE2.out.2, h44]; decide)
                simpa using this
              have H44 := Lib.hid h44
              clear h44
              go_wp2
              go_roundg (gk - 1)
              case measure => obtain ⟨f, rfl, _⟩ := HF2.out; omega
              case rel =>
                obtain ⟨f, rfl, hf, hR⟩ := HRR.out
                rw [if_pos H44.out] at hR
                have hol2 := HX.out.2.1
                exact ⟨k + 1, out ++ [wd], by omega, by omega, by simp; omega, by rw [hR]; rfl, H4.out.1.set, H4.out.2.2.kept (grown_set (bp := bp) (grown_refl _ _) _) (.inr (own_ne H4.out.2.2 hlt)), grown_set (grown_trans H3.out.2.1 H4.out.2.1) _⟩
            · by_cases h125 : dd = 125
              · have hB : ((dd.toNat : Int) == 44) = false := byte_ne (d := 44) h44
                have hB2 : ((dd.toNat : Int) == 125) = true := byte_eq (d := 125) h125
                have HR : Hid (R = (out ++ [wd], 0, k + 1)) := by
                  obtain ⟨f, rfl, hf, hR⟩ := HRR.out
                  rw [hR, if_neg h44, if_pos h125]; rfl
                clear h44 h125
                go_wp2
                go_ret2
                rw [HL.out, HR.out]
                exact ⟨_, rfl, H4.out.1.set, grown_set (grown_trans H3.out.2.1 H4.out.2.1) _, H4.out.2.2.kept (grown_set (bp := bp) (grown_refl _ _) _) (.inr (own_ne H4.out.2.2 hlt))⟩
              · have hB : ((dd.toNat : Int) == 44) = false := byte_ne (d := 44) h44
                have hB2 : ((dd.toNat : Int) == 125) = false := byte_ne (d := 125) h125
                have HR : Hid (R = ([], 2, k)) := by
                  obtain ⟨f, rfl, hf, hR⟩ := HRR.out
                  rw [hR, if_neg h44, if_neg h125]; rfl
                clear h44 h125
                go_wp2
                go_ret2
                rw [HL.out, HR.out]
                exact ⟨_, rfl, H4.out.1, grown_trans H3.out.2.1 H4.out.2.1, World.ownsRow_nil _ _ _ _⟩
        · have hv' : validL wd = false := by simpa using hv
          have HR : Hid (R = ([], 3, j)) := by
            obtain ⟨f, rfl, _⟩ := HF2.out
            obtain ⟨e1, e2, e3, e4⟩ := HE.out
            rw [← HF.out, membersF, e2, e1, if_pos HC.out, e3, if_neg (by rw [hv']; simp)]; rfl
          have hq := HN.out.1 w2 hws
          rw [hv'] at hq
          have HV := Lib.hid hq
          clear hv hv' hq
          go_wp2_with fail
          refine HV.out.mono ?_
          rintro e w3 ⟨rfl, rfl⟩
          go_wp2
          go_ret2
          rw [HL.out, HR.out]
          exact ⟨_, rfl, H2.out.1.set, grown_set (grown_trans HX.out.2.2.2.2 (grown_trans H1.out.2 H2.out.2.1)) _, World.ownsRow_nil _ _ _ _⟩
      · have hc' : wb (byteAt s.data.toList (skipL s.data.toList p)) = false := by simpa using hc
        have HR : Hid (R = ([], 2, skipL s.data.toList p)) := by
          obtain ⟨hm, hol, hF, hown, hg⟩ := HX.out
          cases gk with
          | zero => omega
          | succ f => rw [← hF, membersF, if_neg (by rw [hc']; exact Bool.false_ne_true)]; rfl
        have hq := wordByte_any (byteAt s.data.toList (skipL s.data.toList p))
        rw [hc'] at hq
        have HQ := Lib.hid hq
        clear hq hc hc'
        generalize byteAt s.data.toList (skipL s.data.toList p) = cc at *
        go_wp2_with fail
        refine (HQ.out _).mono ?_
        rintro e w2 ⟨rfl, rfl⟩
        go_wp2
        go_ret2
        rw [HL.out, HR.out]
        exact ⟨_, rfl, H1.out.1, grown_trans HX.out.2.2.2.2 (grown_trans H1.out.2 (grown_refl _ _)), World.ownsRow_nil _ _ _ _⟩
end Go.Proofs.Ytgolodpihmdmoaa
