/-
  Chapter 39: sorting a list of the call's own; worst.
-/
import Derived.Test.YtahpecbcpgjinaaCm
import Derived.Test.YtahpecbcpgjinaaShelf
import Derived.Sort.OwnSorted
import Derived.Laws.AppendOwnNone
namespace Go.Proofs.Ytahpecbcpgjinaa
open Go.RowKit Go.Sort

def sortI (l : List Int) : List Int := l.mergeSort fun x y => decide (x ≤ y)
theorem sortI_len (l : List Int) : (sortI l).length = l.length := List.length_mergeSort l
theorem sortI_le (l : List Int) : (sortI l).Pairwise (· ≤ ·) := by
  have h := List.pairwise_mergeSort (le := fun (x y : Int) => decide (x ≤ y)) (fun a b c h1 h2 => by
      rw [decide_eq_true_eq] at *; omega) (fun a b => by
      rw [Bool.or_eq_true, decide_eq_true_eq, decide_eq_true_eq]; omega) l
  exact h.imp fun h => of_decide_eq_true h
theorem sortI_mem (l : List Int) (r : Int) : r ∈ sortI l ↔ r ∈ l := (List.mergeSort_perm l _).mem_iff
theorem ints_unique : ∀ (xs ys : List Int), xs.Pairwise (· < ·) → ys.Pairwise (· < ·) → (∀ s, s ∈ xs ↔ s ∈ ys) → xs = ys
  | [], [], _, _, _ => rfl
  | [], y :: ys, _, _, h => by have := (h y).2 (by simp); simp at this
  | x :: xs, [], _, _, h => by have := (h x).1 (by simp); simp at this
  | x :: xs, y :: ys, hx, hy, h => by
    rw [List.pairwise_cons] at hx hy
    have hxy : x = y := by
      have h1 := (h x).1 (by simp)
      have h2 := (h y).2 (by simp)
      rcases List.mem_cons.1 h1 with e | h1
      · exact e
      rcases List.mem_cons.1 h2 with e | h2
      · exact e.symm
      have a := hy.1 x h1
      have b := hx.1 y h2
      omega
    subst hxy
    rw [ints_unique xs ys hx.2 hy.2 (fun s => ?_)]
    constructor
    · intro hs
      rcases List.mem_cons.1 ((h s).1 (by simp [hs])) with e | h1
      · subst e; have := hx.1 s hs; omega
      · exact h1
    · intro hs
      rcases List.mem_cons.1 ((h s).2 (by simp [hs])) with e | h1
      · subst e; have := hy.1 s hs; omega
      · exact h1
/-- The sorted list of a list without repeats is told by its members. -/
theorem sortI_eq {l t : List Int} (hn : l.Nodup) (ht : t.Pairwise (· < ·)) (h : ∀ r, r ∈ l ↔ r ∈ t) : sortI l = t := by
  refine ints_unique _ _ ?_ ht (fun r => (sortI_mem l r).trans (h r))
  have h1 := sortI_le l
  have h2 : (sortI l).Nodup := (List.mergeSort_perm l _).nodup_iff.2 hn
  exact (h1.and h2).imp fun ⟨a, b⟩ => by omega

theorem grown_grow (w : World) (os : Array Obj) : w.grownBy (grow w os) none := ⟨rfl, rfl, rfl, by simp [grow], fun k hk _ => heap_grow_old w os hk⟩

/-- slices.Sort of a row of the call's own. -/
theorem sort_own {w0 w1 : World} {v : Value} {l : List Int} (hown : w1.ownsRow w0.heap.size 3 1 v l.length (l.map vi)) (hbel : Below w0.heap.size w0 w1) (hn : l.length ≤ 1000000) :
    Calls Try.prog 45 #[v] w1 fun e w' => e = .returned (.tuple #[]) ∧ w'.ownsRow w0.heap.size 3 1 v (sortI l).length ((sortI l).map vi) ∧ Below w0.heap.size w0 w' := by
  rcases hown.2 with ⟨rfl, h0⟩ | ⟨g, cap, cur, rfl, hbase, hb, h1, h2, h3, h4⟩
  · have hl : l = [] := List.length_eq_zero_iff.1 h0
    subst hl
    refine (Try.slices_Sort_int_none none 0 w1).mono fun e w' ⟨he, hw⟩ => ⟨he, ?_⟩
    subst hw
    rw [show sortI [] = [] by simp [sortI]]
    exact ⟨hown, hbel⟩
  · have hgl : g < w1.heap.size := (Array.getElem?_eq_some_iff.1 hb).1
    have hH : Holds (Value.int .i64) w1 g 0 l.toArray := fun j hj => by
      have hj' : j < l.length := by simpa using hj
      rw [Nat.zero_add, hown.cellAt j (by omega), hown.frozenAt j, List.getElem?_map, List.getElem?_eq_getElem hj', getElem!_pos _ _ (by simpa using hj')]
      exact ⟨rfl, rfl⟩
    refine (Try.slices_Sort_int g 0 cap l w1 hH hgl (by omega)).mono fun e w' ⟨he, nn, os, hw⟩ => ⟨he, ?_⟩
    subst hw
    have hs := Lib.ownsRow_putRow (enc := Value.int .i64) (q := nn) (k := l.length) (ys := sortI l) hown (sortI_len l) (Nat.le_refl _)
    rw [List.take_of_length_le (by rw [sortI_len]; omega)] at hs
    have hg := grown_grow (putRow (Value.int .i64) (Sort.ahead w1 nn) g 0 (sortI l).toArray) os
    have hb2 := Lib.below_putRow (enc := Value.int .i64) (q := nn) (d := (sortI l).toArray) hbel hbase
    refine ⟨by rw [sortI_len]; exact hs.kept hg (.inr (by simp [Value.ownBlock])), ?_⟩
    exact hb2.grown hg hb2.size (fun k hk => by cases hk)

theorem src_cells {α : Type} {enc : α → Value} {w : World} {ad : Addr} {n c : Nat} {xs : List α} (h : Reads enc w (.slice (some ad) n c) xs) : n = xs.length ∧ ∀ j u, (xs.map enc)[j]? = some u → w.cell? (ad.add j) = some u := by
  obtain ⟨ao, cap, hv, hl, hm, hn, hx⟩ := h
  injection hv with e1 e2 e3
  refine ⟨e2, fun j u hu => ?_⟩
  rw [List.getElem?_map] at hu
  by_cases hj : j < xs.length
  · rw [List.getElem?_eq_getElem hj] at hu
    simp at hu
    obtain ⟨b, off, rfl, hb, hc⟩ := hx (by intro e; subst e; simp at hj)
    injection e1 with e1
    subst e1
    rw [show Addr.add ⟨b, off, none⟩ j = (⟨b, off + j, none⟩ : Addr) by by_cases h0 : j = 0 <;> simp [Addr.add, h0], hc j hj, hu]
  · rw [List.getElem?_eq_none (by omega)] at hu; simp at hu
theorem one_vi (xs : List Int) : ∀ u ∈ xs.map vi, u.oneCell' = true := by
  intro u hu
  simp only [List.mem_map] at hu
  obtain ⟨s, _, rfl⟩ := hu
  rfl
theorem Reads.none {α : Type} {enc : α → Value} {w : World} {n c : Nat} {xs : List α} (h : Reads enc w (.slice Option.none n c) xs) : n = 0 ∧ c = 0 ∧ xs = [] := by
  obtain ⟨ao, cap, hv, hl, hm, hn, hx⟩ := h
  injection hv with e1 e2 e3
  have := hn e1.symm
  have h0 : xs.length = 0 := by omega
  exact ⟨by omega, by omega, List.length_eq_zero_iff.1 h0⟩
theorem append_reads {ops : Array Oper} {rest : List Oper} {o : Oper} {a : Act} {w : World} {Q : Exit → Act → World → Prop} (hgd : o.guard = none) (s x : Operand)
    (ho : o.op = .call { callee := .builtin .append, args := #[s, x], argTypes := #[22, 22] })
    (base : Nat) (v u : Value) (n : Nat) (xs ys : List Int) (hs : a.eval s = v) (hown : w.ownsRow base 3 1 v n (xs.map vi)) (hx : a.eval x = u) (hu : Reads vi w u ys) (hlen : n + ys.length ≤ 1000000) (hbase : base ≤ w.heap.size)
    (h : ∀ v' w', w'.ownsRow base 3 1 v' (n + ys.length) ((xs ++ ys).map vi) → w.grownBy w' v.ownBlock → wpList Try.prog ops Q rest (a.put o.dst v') w') : wpList Try.prog ops Q (o :: rest) a w := by
  obtain ⟨i0, hinf, hz0, hz1, hz2⟩ := info_parts Try.infoInt
  obtain ⟨au, c, rfl, hl⟩ := hu
  have hu : Reads vi w (.slice au ys.length c) ys := ⟨au, c, rfl, hl⟩
  cases au with
  | none =>
    obtain ⟨h0, hc, rfl⟩ := Reads.none hu
    subst hc
    refine wpList_append_own_none hgd s x 22 ho base 3 i0 1 Try.underlying22 hinf v n (xs.map vi) hs hown hx ?_
    exact h v w (by simpa using hown) (grown_refl _ _)
  | some au =>
    obtain ⟨_, hc⟩ := src_cells hu
    refine wpList_append_own w hgd s x 22 ho base 3 i0 (.int .i64 0) 1 8 Try.underlying22 hinf hz0 hz1 hz2 rfl (by decide) v n (xs.map vi) hs hown au ys.length c (ys.map vi) hx (by simp) hc (one_vi _) (by unfold maxLen; omega) (by omega) hbase ?_
    intro v' w' h1 h2 _
    exact h v' w' (by rw [List.map_append]; exact h1) h2

def outside (may x : List Int) : List Int := may.filter fun r => !decide (r ∈ x)
theorem outside_in {may x : List Int} {k : Nat} (h : k < may.length) (hm : decide (may[k] ∈ x) = true) : outside (may.take (k + 1)) x = outside (may.take k) x := by
  unfold outside
  rw [List.take_succ_eq_append_getElem h, List.filter_append]
  simp [of_decide_eq_true hm]
theorem outside_out {may x : List Int} {k : Nat} (h : k < may.length) (hm : decide (may[k] ∈ x) = false) : outside (may.take (k + 1)) x = outside (may.take k) x ++ [may[k]] := by
  unfold outside
  rw [List.take_succ_eq_append_getElem h, List.filter_append]
  simp [of_decide_eq_false hm]
theorem outside_len (may x : List Int) (k : Nat) : (outside (may.take k) x).length ≤ k := by
  unfold outside
  exact Nat.le_trans (List.length_filter_le _ _) (by simp; omega)

set_option maxHeartbeats 1000000 in
theorem worst_raw (u v z : Value) (must may x : List Int) (w : World) (hu : Reads vi w u must) (hv : Reads vi w v may) (hz : Reads vi w z x) (hn : must.length + may.length ≤ 1000000) :
    Calls Try.prog 47 #[u, v, z] w (MadeI w (sortI (must ++ outside may x))) := by
  obtain ⟨i0, hinf, hz0, hz1, hz2⟩ := info_parts Try.infoInt
  have HI := Lib.hid (And.intro hinf (And.intro hz0 (And.intro hz1 hz2)))
  clear hinf hz0 hz1 hz2
  have HR := Lib.hid (And.intro hu (And.intro hv hz))
  obtain ⟨ao, cap, rfl, hl, hm, hno, hx⟩ := hv
  unfold maxLen at hm
  clear hu hz hno hx
  go_enter Try.func47, Try.ntmps47
  go_wp2_with (at_builtin; refine append_reads rfl (.tmp 10) (.tmp 11) rfl w.heap.size _ u 0 [] must rfl (World.ownsRow_made w #[] 0 (Nat.le_refl _) (Nat.zero_le _) rfl) rfl (HR.out.1.keep ((Below.refl _ _).alloc (Nat.le_refl _) _)) (by omega) (by simp) ?_)
  intro v3 w3 hown3 hgr3
  have H3 := Lib.hid (And.intro hown3 (((Below.refl w.heap.size w).alloc (Nat.le_refl _) (.cells #[] 3)).grown hgr3 (by simp) (fun k hk => by simp [Value.ownBlock] at hk; omega)))
  clear hown3 hgr3
  go_wp2
  go_loopg [7, 15] may.length (fun m o i wr => ∃ k : Nat, m + k = may.length ∧ i = .int .i64 k ∧ wr.ownsRow w.heap.size 3 1 o (must ++ outside (may.take k) x).length ((must ++ outside (may.take k) x).map vi) ∧ Below w.heap.size w wr)
  case atStart => exact ⟨0, by omega, rfl, by have := H3.out.1; simpa [outside] using this, H3.out.2⟩
  case round =>
    obtain ⟨k, hmk, rfl, hown, hbel⟩ := hrel
    have HM := Lib.hid hmk
    have hk : k ≤ may.length := by omega
    have HO := Lib.hid (And.intro hown hbel)
    clear hmk hown hbel
    by_cases hlt : k < may.length
    · obtain ⟨ao2, cap2, hv2, hl2, hm2, hno2, hx2⟩ := HR.out.2.1.keep HO.out.2
      obtain ⟨b, off, e, hb, hc⟩ := hx2 (by intro e; subst e; simp at hlt)
      injection hv2 with e1 e2 e3
      rw [e] at e1
      subst e1
      have hcell : wr.cell? ⟨b, off + k, none⟩ = some (.int .i64 may[k]) := hc k hlt
      have hco := contains_any z x may[k] wr (HR.out.2.2.keep HO.out.2)
      have hol := outside_len may x k
      have h1 := @outside_in may x k hlt
      have h2 := @outside_out may x k hlt
      clear hc hx2 hno2 e e2 e3 hl2 hm2
      generalize may[k] = r at *
      generalize decide (r ∈ x) = d at *
      have HC := Lib.hid hco
      clear hco
      cases d
      · have HE := Lib.hid (h2 rfl)
        clear h1 h2
        generalize hout : must ++ outside (may.take k) x = out at *
        have hlo : out.length ≤ 1000000 := by rw [← hout]; simp; omega
        have HE2 : Hid (must ++ outside (may.take (k + 1)) x = out ++ [r]) := Lib.hid (by rw [HE.out, ← List.append_assoc, hout])
        have hlo2 : out.length < 1000000 := by rw [← hout]; simp; omega
        clear hout
        go_wp2_with fail
        refine HC.out.mono ?_
        rintro e w1 ⟨rfl, rfl⟩
        go_wp2_with (at_builtin; refine wpList_append_own _ rfl _ _ 22 rfl w.heap.size 3 i0 (.int .i64 0) 1 8 Try.underlying22 HI.out.1 HI.out.2.1 HI.out.2.2.1 HI.out.2.2.2 rfl (by decide) _ _ _ rfl (by exact HO.out.1.alloc _) ⟨_, 0, none⟩ 1 1 [.int .i64 r] rfl rfl ?q1 ?q2 ?q3 ?q4 ?q5 ?_)
        case q1 => exact cell_one_new _ _ _
        case q2 => intro u hu; simp at hu; subst hu; rfl
        case q3 => unfold maxLen; omega
        case q4 => omega
        case q5 => have := HO.out.2.size; simp; omega
        intro v5 w5 hown5 hgr5 _
        have H5 := Lib.hid (append_one (x := r) HO.out.1 HO.out.2 (by exact hgr5) hown5)
        clear hown5 hgr5
        go_wp2
        go_roundg (may.length - (k + 1))
        case measure => have := HM.out; omega
        case rel => exact ⟨k + 1, by omega, by go_num, by rw [HE2.out]; exact H5.out.1, H5.out.2⟩
      · have HE := Lib.hid (h1 rfl)
        clear h1 h2
        go_wp2_with fail
        refine HC.out.mono ?_
        rintro e w1 ⟨rfl, rfl⟩
        go_wp2
        go_roundg (may.length - (k + 1))
        case measure => have := HM.out; omega
        case rel => exact ⟨k + 1, by omega, by go_num, by rw [HE.out]; exact HO.out.1, HO.out.2⟩
    · have HV : Hid (outside (may.take k) x = outside may x) := Lib.hid (by rw [List.take_of_length_le (by omega)])
      have hso := sort_own HO.out.1 HO.out.2 (by have := outside_len may x k; simp; omega)
      rw [HV.out] at hso
      have HS := Lib.hid hso
      clear hso
      go_wp2_with fail
      refine HS.out.mono ?_
      rintro e w4 ⟨rfl, ho4, hb4⟩
      have H4 := Lib.hid (And.intro (Reads.of_owns ho4) hb4)
      clear ho4 hb4
      go_wp2
      go_ret
      exact ⟨_, rfl, H4.out.1, H4.out.2⟩
end Go.Proofs.Ytahpecbcpgjinaa
