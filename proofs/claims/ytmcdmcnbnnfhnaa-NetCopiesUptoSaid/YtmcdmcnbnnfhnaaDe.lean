/-
  Chapter 28: copies of byte strings, of identities of reads, of acks.
-/
import Derived.Test.YtmcdmcnbnnfhnaaDd
namespace Go.Proofs.Ytmcdmcnbnnfhnaa
open Go.RowKit

/-- A copy that shares no memory with what was there. -/
def DeepMade (w : World) (d : DV) (e : Ending) (w' : World) : Prop := ∃ v', e = .returned v' ∧ Below w.heap.size w w' ∧ ReadsD (fun b => w.heap.size ≤ b) w' v' d
def isVal : DV → Prop
  | .val _ => True
  | .ls _ _ => False
theorem ReadsD.vals {P P' : Nat → Prop} {w : World} {v : Value} {d : DV} (h : ReadsD P w v d) (hv : isVal d) : ReadsD P' w v d := by
  cases h with
  | val v h1 => exact .val v h1
  | nil => exact hv.elim
  | ls => exact hv.elim
theorem RowD.vals {w : World} {g cap K : Nat} {T : TypeId} {Q Q' : Nat → Nat → Nat → Prop} {ds : List (List DV)} (h : RowD w g cap T K Q ds) (hv : ∀ j (hj : j < ds.length) i (hi : i < ds[j].length), isVal ds[j][i] ∨ ∀ b, Q j i b → Q' j i b) : RowD w g cap T K Q' ds := by
  obtain ⟨cur, h1, h2, h3, h4, h5⟩ := h
  refine ⟨cur, h1, h2, h3, h4, fun j hj => ⟨(h5 j hj).1, fun i hi => ?_⟩⟩
  obtain ⟨u, a, b⟩ := (h5 j hj).2 i hi
  rcases hv j hj i hi with h | h
  · exact ⟨u, a, b.vals h⟩
  · exact ⟨u, a, b.mono fun b hb _ => h b hb⟩
theorem CloneOk.deep {P : Nat → Prop} {w w' : World} {T : TypeId} {K : Nat} {xs : List (List DV)} {v' : Value} (h : CloneOk P w T K xs v' w') (hv : ∀ j (hj : j < xs.length) i (hi : i < xs[j].length), isVal xs[j][i]) : Below w.heap.size w w' ∧ ReadsD (fun b => w.heap.size ≤ b) w' v' (.ls K xs) := by
  obtain ⟨hb, ⟨rfl, ao, cap, rfl, h1, h2⟩ | ⟨hne, g, cap, rfl, hg, hrow⟩⟩ := h
  · exact ⟨hb, .nil K ao cap h1 h2⟩
  · exact ⟨hb, RowD.reads (Q := fun _ _ b => w.heap.size ≤ b) (hrow.vals fun j hj i hi => .inl (hv j hj i hi)) hg fun _ _ _ hb _ => hb⟩
theorem bytes_val (l : Str) : ∀ j (hj : j < (l.map fun c => [DV.val (v8 c)]).length) i (hi : i < (l.map fun c => [DV.val (v8 c)])[j].length), isVal (l.map fun c => [DV.val (v8 c)])[j][i] := by
  intro j hj i hi
  simp only [List.getElem_map, List.length_cons, List.length_nil] at hi ⊢
  have e : i = 0 := by omega
  subst e; trivial
theorem ReadsD.bslc {P : Nat → Prop} {w : World} {v : Value} {l : Str} (h : ReadsD P w v (bytesD l)) : ∃ ao cap, v = .slice ao l.length cap ∧ l.length ≤ cap ∧ cap ≤ maxLen ∧ (ao = none → cap = 0) ∧ l.length ≤ 1048576 := ReadsD.slcM (f := fun c => [DV.val (v8 c)]) h
theorem objs_val (l : List Str) : ∀ j (hj : j < (l.map fun s => [sD s]).length) i (hi : i < (l.map fun s => [sD s])[j].length), isVal (l.map fun s => [sD s])[j][i] := by
  intro j hj i hi
  simp only [List.getElem_map, List.length_cons, List.length_nil] at hi ⊢
  have e : i = 0 := by omega
  subst e; trivial
theorem bytes_any {P : Nat → Prop} (v : Value) (l : Str) (w : World) (h : ReadsD P w v (bytesD l)) : Calls Try.prog 64 #[v] w (DeepMade w (bytesD l)) :=
  (by_clone v _ w h).mono fun _ _ ⟨v', he, hc⟩ => ⟨v', he, hc.deep (bytes_val l)⟩
theorem objs_any {P : Nat → Prop} (v : Value) (l : List Str) (w : World) (h : ReadsD P w v (objsD l)) : Calls Try.prog 65 #[v] w (DeepMade w (objsD l)) :=
  (str_clone v _ w h).mono fun _ _ ⟨v', he, hc⟩ => ⟨v', he, hc.deep (objs_val l)⟩
theorem frozen_on {w w' : World} {g cap K : Nat} {T : TypeId} {Q : Nat → Nat → Nat → Prop} {ds : List (List DV)} (h : RowD w g cap T K Q ds) (hb : Below w.heap.size w w') (i : Nat) : w'.frozen? ⟨g, i, none⟩ = false := by
  obtain ⟨cur, h1, _⟩ := h
  exact (h1.on hb).frozen i
/-- What a loop over a row knows: cell c of the elements before i is copied. -/
def QF (B g c i : Nat) : Nat → Nat → Nat → Prop := fun j k b => if k = c ∧ j < i then g < b else b < B
theorem QF.zero (B g c : Nat) {j k b : Nat} (h : b < B) : QF B g c 0 j k b := by unfold QF; rw [if_neg (by omega)]; exact h
theorem QF.not {B g c i : Nat} (hg : B ≤ g) (j k : Nat) : ¬ QF B g c i j k g := by unfold QF; split <;> omega
theorem QF.step {B g c i : Nat} (j k b : Nat) : QF B g c (i + 1) j k b ↔ if j = i ∧ k = c then g < b else QF B g c i j k b := by
  unfold QF
  by_cases h : j = i ∧ k = c
  · rw [if_pos h, if_pos ⟨h.2, by omega⟩]
  · rw [if_neg h]
    by_cases h2 : k = c ∧ j < i
    · rw [if_pos h2, if_pos ⟨h2.1, by omega⟩]
    · rw [if_neg h2, if_neg (by omega)]
theorem ridD_at (l : List RidM) {i : Nat} (hi : i < l.length) : ∃ (h1 : i < (l.map ridD).length) (h2 : 2 < ((l.map ridD)[i]'h1).length), bytesD l[i].tag = ((l.map ridD)[i]'h1)[2]'h2 := ⟨by simpa using hi, by simp [ridD], by simp [ridD]⟩
theorem ridD_val (l : List RidM) (j : Nat) (hj : j < (l.map ridD).length) (i : Nat) (hi : i < (l.map ridD)[j].length) (hne : i ≠ 2) : isVal (l.map ridD)[j][i] := by
  simp only [List.getElem_map, ridD, List.length_cons, List.length_nil] at hi ⊢
  match i, hi, hne with
  | 0, _, _ => trivial
  | 1, _, _ => trivial
  | 2, _, h => exact absurd rfl h
set_option maxRecDepth 100000 in
set_option maxHeartbeats 4000000 in
theorem reads_any {P : Nat → Prop} (v : Value) (l : List RidM) (w : World) (h : ReadsD P w v (ridsD l)) : Calls Try.prog 56 #[v] w (DeepMade w (ridsD l)) := by
  have HC := Lib.hid (rid_clone v _ w (h.lt.mono (P' := fun b => b < w.heap.size) fun b hb _ => hb.2))
  clear h
  go_enter Try.func56, Try.ntmps56
  go_wp2_with fail
  refine HC.out.mono ?_
  rintro e w1 ⟨v1, rfl, hb1, hcl⟩
  clear HC
  rcases hcl with ⟨hx, ao, cap, rfl, h1, h2⟩ | ⟨hne, g, cap, rfl, hg, hrow⟩
  · have hl : l = [] := by simpa using hx
    subst hl
    have HF := Lib.hid (And.intro hb1 (And.intro h1 h2))
    clear hx hb1 h1 h2
    go_wp2
    go_loopg [4, 9] 0 (fun m _ ix wr => ix = .int .i64 0 ∧ wr = w1)
    case atStart => exact ⟨rfl, rfl⟩
    case round =>
      obtain ⟨rfl, rfl⟩ := hrel
      go_wp2
      go_ret
      exact ⟨_, rfl, HF.out.1, .nil 3 ao cap HF.out.2.1 HF.out.2.2⟩
  · have HB := Lib.hid (And.intro hb1 hg)
    have HR := Lib.hid (hrow.mono (Q' := QF w.heap.size g 2 0) fun j k b hb _ => QF.zero _ _ _ hb)
    obtain ⟨⟨-, hL⟩, -⟩ := hrow.bounds
    rw [List.length_map] at hL ⊢
    clear hne hb1 hg hrow
    go_wp2
    go_loopg [4, 9] l.length (fun m _ ix wr => ∃ i : Nat, m + i = l.length ∧ ix = .int .i64 i ∧ RowD wr g cap 83 3 (QF w.heap.size g 2 i) (l.map ridD) ∧ Below w.heap.size w wr)
    case atStart => exact ⟨0, by omega, rfl, HR.out, HB.out.1⟩
    case round =>
      clear HR
      rename World => w2
      obtain ⟨i, hmi, rfl, hrow, hb2⟩ := hrel
      have HM := Lib.hid hmi
      have HROW := Lib.hid hrow
      have K2 := Lib.hid hb2
      have hi : i ≤ l.length := by omega
      have hi0 : (0 : Int) ≤ (i : Int) := by omega
      clear hmi hrow hb2
      by_cases hlt : i < l.length
      · have hii : (i : Int) < l.length := by omega
        have HLT := Lib.hid (And.intro hlt trivial)
        obtain ⟨q1, q2, q3⟩ := ridD_at l hlt
        obtain ⟨u, hcell, hfz, hrd⟩ := HROW.out.cell q1 q2
        rw [← q3] at hrd
        have HCALL := Lib.hid (bytes_any u l[i].tag w2 hrd)
        obtain ⟨ua, uc, rfl, -⟩ := hrd.bslc
        have HQ := Lib.hid (fun (w' : World) (v' : Value) (hb : Below w2.heap.size w2 w') (hv : ReadsD (fun b => g < b) w' v' (bytesD l[i].tag)) => (HROW.out.on hb).put q1 q2 q3 hv (Nat.lt_irrefl g) (QF.not HB.out.2) QF.step)
        have HCE := Lib.hid hcell
        have c0 := hcell w2 (Below.refl _ _)
        have HFZ := Lib.hid (And.intro HROW.out.lt hfz)
        clear hcell hfz hrd q3
        generalize l[i] = x at *
        clear q1 q2 hlt
        go_wp2_with fail
        refine HCALL.out.mono ?_
        rintro e w3 ⟨v3, rfl, hb3, hv3⟩
        obtain ⟨oa, oc, rfl, -⟩ := hv3.bslc
        have HN := Lib.hid (HQ.out w3 _ hb3 (hv3.mono fun b hb _ => by have := HFZ.out.1; omega))
        have c1 := HCE.out w3 hb3
        have f1 : w3.frozen? ⟨g, i * 3 + 2, none⟩ = false := (frozen_on HROW.out hb3 _)
        have l1 : g < w3.heap.size := Nat.lt_of_lt_of_le HFZ.out.1 hb3.size
        have K3 := Lib.hid ((K2.out.trans (hb3.mono K2.out.size)).setCell (p := ⟨g, i * 3 + 2, none⟩) HB.out.2 (.slice oa x.tag.length oc))
        clear HCALL HQ HCE hb3 hv3 c0 HROW K2
        go_wp2
        go_roundg (l.length - (i + 1))
        case measure => have := HM.out; have := HLT.out.1; omega
        case rel => exact ⟨i + 1, by have := HLT.out.1; omega, by go_num, HN.out, K3.out⟩
      · have hii : ¬ (i : Int) < l.length := by omega
        have e : i = l.length := by omega
        have HF : Hid (ReadsD (fun b => w.heap.size ≤ b) w2 (.slice (some ⟨g, 0, none⟩) l.length cap) (ridsD l)) := Lib.hid (by
          have h1 := RowD.reads (P := fun b => w.heap.size ≤ b) (Q := fun _ _ b => w.heap.size ≤ b) (HROW.out.vals fun j hj k hk => by
            by_cases hk2 : k = 2
            · right
              intro b hb
              unfold QF at hb
              rw [if_pos ⟨hk2, by rw [e]; simpa using hj⟩] at hb
              have := HB.out.2
              omega
            · exact .inl (ridD_val l j hj k hk hk2)) HB.out.2 fun _ _ _ hb _ => hb
          unfold ridsD; simpa using h1)
        clear e
        go_wp2
        go_ret
        exact ⟨_, rfl, K2.out, HF.out⟩
theorem ackD_at (l : List AckM) {i : Nat} (hi : i < l.length) : ∃ (h1 : i < (l.map ackD).length) (h2 : 1 < ((l.map ackD)[i]'h1).length), bytesD l[i].tag = ((l.map ackD)[i]'h1)[1]'h2 := ⟨by simpa using hi, by simp [ackD], by simp [ackD]⟩
theorem ackD_val (l : List AckM) (j : Nat) (hj : j < (l.map ackD).length) (i : Nat) (hi : i < (l.map ackD)[j].length) (hne : i ≠ 1) : isVal (l.map ackD)[j][i] := by
  simp only [List.getElem_map, ackD, List.length_cons, List.length_nil] at hi ⊢
  match i, hi, hne with
  | 0, _, _ => trivial
  | 1, _, h => exact absurd rfl h
set_option maxRecDepth 100000 in
set_option maxHeartbeats 4000000 in
theorem acks_any {P : Nat → Prop} (v : Value) (l : List AckM) (w : World) (h : ReadsD P w v (acksD l)) : Calls Try.prog 60 #[v] w (DeepMade w (acksD l)) := by
  have HC := Lib.hid (ack_clone v _ w (h.lt.mono (P' := fun b => b < w.heap.size) fun b hb _ => hb.2))
  clear h
  go_enter Try.func60, Try.ntmps60
  go_wp2_with fail
  refine HC.out.mono ?_
  rintro e w1 ⟨v1, rfl, hb1, hcl⟩
  clear HC
  rcases hcl with ⟨hx, ao, cap, rfl, h1, h2⟩ | ⟨hne, g, cap, rfl, hg, hrow⟩
  · have hl : l = [] := by simpa using hx
    subst hl
    have HF := Lib.hid (And.intro hb1 (And.intro h1 h2))
    clear hx hb1 h1 h2
    go_wp2
    go_loopg [4, 9] 0 (fun m _ ix wr => ix = .int .i64 0 ∧ wr = w1)
    case atStart => exact ⟨rfl, rfl⟩
    case round =>
      obtain ⟨rfl, rfl⟩ := hrel
      go_wp2
      go_ret
      exact ⟨_, rfl, HF.out.1, .nil 2 ao cap HF.out.2.1 HF.out.2.2⟩
  · have HB := Lib.hid (And.intro hb1 hg)
    have HR := Lib.hid (hrow.mono (Q' := QF w.heap.size g 1 0) fun j k b hb _ => QF.zero _ _ _ hb)
    obtain ⟨⟨-, hL⟩, -⟩ := hrow.bounds
    rw [List.length_map] at hL ⊢
    clear hne hb1 hg hrow
    go_wp2
    go_loopg [4, 9] l.length (fun m _ ix wr => ∃ i : Nat, m + i = l.length ∧ ix = .int .i64 i ∧ RowD wr g cap 87 2 (QF w.heap.size g 1 i) (l.map ackD) ∧ Below w.heap.size w wr)
    case atStart => exact ⟨0, by omega, rfl, HR.out, HB.out.1⟩
    case round =>
      clear HR
      rename World => w2
      obtain ⟨i, hmi, rfl, hrow, hb2⟩ := hrel
      have HM := Lib.hid hmi
      have HROW := Lib.hid hrow
      have K2 := Lib.hid hb2
      have hi : i ≤ l.length := by omega
      have hi0 : (0 : Int) ≤ (i : Int) := by omega
      clear hmi hrow hb2
      by_cases hlt : i < l.length
      · have hii : (i : Int) < l.length := by omega
        have HLT := Lib.hid (And.intro hlt trivial)
        obtain ⟨q1, q2, q3⟩ := ackD_at l hlt
        obtain ⟨u, hcell, hfz, hrd⟩ := HROW.out.cell q1 q2
        rw [← q3] at hrd
        have HCALL := Lib.hid (bytes_any u l[i].tag w2 hrd)
        obtain ⟨ua, uc, rfl, -⟩ := hrd.bslc
        have HQ := Lib.hid (fun (w' : World) (v' : Value) (hb : Below w2.heap.size w2 w') (hv : ReadsD (fun b => g < b) w' v' (bytesD l[i].tag)) => (HROW.out.on hb).put q1 q2 q3 hv (Nat.lt_irrefl g) (QF.not HB.out.2) QF.step)
        have HCE := Lib.hid hcell
        have c0 := hcell w2 (Below.refl _ _)
        have HFZ := Lib.hid (And.intro HROW.out.lt hfz)
        clear hcell hfz hrd q3
        generalize l[i] = x at *
        clear q1 q2 hlt
        go_wp2_with fail
        refine HCALL.out.mono ?_
        rintro e w3 ⟨v3, rfl, hb3, hv3⟩
        obtain ⟨oa, oc, rfl, -⟩ := hv3.bslc
        have HN := Lib.hid (HQ.out w3 _ hb3 (hv3.mono fun b hb _ => by have := HFZ.out.1; omega))
        have c1 := HCE.out w3 hb3
        have f1 : w3.frozen? ⟨g, i * 2 + 1, none⟩ = false := (frozen_on HROW.out hb3 _)
        have l1 : g < w3.heap.size := Nat.lt_of_lt_of_le HFZ.out.1 hb3.size
        have K3 := Lib.hid ((K2.out.trans (hb3.mono K2.out.size)).setCell (p := ⟨g, i * 2 + 1, none⟩) HB.out.2 (.slice oa x.tag.length oc))
        clear HCALL HQ HCE hb3 hv3 c0 HROW K2
        go_wp2
        go_roundg (l.length - (i + 1))
        case measure => have := HM.out; have := HLT.out.1; omega
        case rel => exact ⟨i + 1, by have := HLT.out.1; omega, by go_num, HN.out, K3.out⟩
      · have hii : ¬ (i : Int) < l.length := by omega
        have e : i = l.length := by omega
        have HF : Hid (ReadsD (fun b => w.heap.size ≤ b) w2 (.slice (some ⟨g, 0, none⟩) l.length cap) (acksD l)) := Lib.hid (by
          have h1 := RowD.reads (P := fun b => w.heap.size ≤ b) (Q := fun _ _ b => w.heap.size ≤ b) (HROW.out.vals fun j hj k hk => by
            by_cases hk2 : k = 1
            · right
              intro b hb
              unfold QF at hb
              rw [if_pos ⟨hk2, by rw [e]; simpa using hj⟩] at hb
              have := HB.out.2
              omega
            · exact .inl (ackD_val l j hj k hk hk2)) HB.out.2 fun _ _ _ hb _ => hb
          unfold acksD; simpa using h1)
        clear e
        go_wp2
        go_ret
        exact ⟨_, rfl, K2.out, HF.out⟩
end Go.Proofs.Ytmcdmcnbnnfhnaa
