/-
  Chapter 28: Pending: the numbers of the messages under way, ascending.
-/
import Derived.Shelf.SlIterI.Nil
import Derived.Shelf.SortM.Plain
import Derived.Shelf.SortM.SortNone
import Derived.Ground.GgzProg
import Derived.Ground.SlgmProg
import Derived.Test.YtmcdmcnbnnfhnaaVf
import Derived.Test.YtmcdmcnbnnfhnaaWa
namespace Go.Proofs.Ytmcdmcnbnnfhnaa
open Go.RowKit Go.Maps Go.Sort Go.Shelf
def keysA_ren : Go.Shelf.Ren := ⟨fun | 7 => 44 | 10 => 72 | n => n, fun | 23 => 72 | 26 => 3 | 3 => 39 | 28 => 116 | 0 => 0 | 27 => 115 | 33 => 96 | 4 => 4 | n => n, fun | n => n⟩
theorem keysA : Go.Proofs.SlLaysZI.n7 Try.prog keysA_ren := {
  mixed := by kernel_rfl
  f7 := ⟨Try.f44.name, by decide, Try.func44.trans (congrArg some (by kernel_rfl))⟩
  f10 := ⟨Try.f72.name, by decide, Try.func72.trans (congrArg some (by kernel_rfl))⟩
  t0 := Try.underlying0
  a0 := Try.isAgg0
  z0 := Try.sizeOf0
  v0 := Try.zeroValue0
  t4 := Try.underlying4
  a4 := Try.isAgg4
  z4 := Try.sizeOf4
  v4 := Try.zeroValue4
  t23 := Try.underlying72
  a23 := Try.isAgg72
  z23 := Try.sizeOf72
  v23 := Try.zeroValue72
  t26 := Try.underlying3
  a26 := Try.isAgg3
  z26 := Try.sizeOf3
  v26 := Try.zeroValue3
  t27 := Try.underlying115
  a27 := Try.isAgg115
  z27 := Try.sizeOf115
  v27 := Try.zeroValue115
  t28 := Try.underlying116
  a28 := Try.isAgg116
  z28 := Try.sizeOf116
  v28 := Try.zeroValue116
  t33 := Try.underlying96
  a33 := Try.isAgg96
  z33 := Try.sizeOf96
  v33 := Try.zeroValue96 }
def sortedA_ren : Go.Shelf.Ren := ⟨fun | 6 => 43 | 8 => 70 | 9 => 71 | 11 => 84 | 13 => 86 | 12 => 85 | 23 => 96 | 24 => 97 | 14 => 87 | 15 => 88 | 16 => 89 | 17 => 90 | 18 => 91 | 19 => 92 | 20 => 93 | 21 => 94 | 22 => 95 | 25 => 98 | 26 => 99 | 27 => 100 | 28 => 101 | 29 => 102 | 30 => 103 | 31 => 104 | n => n, fun | 26 => 3 | 28 => 116 | 24 => 59 | 0 => 0 | 3 => 3 | 37 => 145 | 48 => 154 | 50 => 156 | 4 => 4 | 40 => 148 | 39 => 147 | 45 => 113 | 5 => 5 | 9 => 9 | 51 => 157 | 55 => 161 | 57 => 163 | 58 => 164 | 33 => 96 | n => n, fun | n => n⟩
theorem sortedA : Go.Proofs.SlLaysZI.n6 Try.prog sortedA_ren := {
  mixed := by kernel_rfl
  f6 := ⟨Try.f43.name, by decide, Try.func43.trans (congrArg some (by kernel_rfl))⟩
  f8 := ⟨Try.f70.name, by decide, Try.func70.trans (congrArg some (by kernel_rfl))⟩
  f11 := ⟨Try.f84.name, by decide, Try.func84.trans (congrArg some (by kernel_rfl))⟩
  t0 := Try.underlying0
  a0 := Try.isAgg0
  z0 := Try.sizeOf0
  v0 := Try.zeroValue0
  t24 := Try.underlying59
  a24 := Try.isAgg59
  z24 := Try.sizeOf59
  v24 := Try.zeroValue59
  t26 := Try.underlying3
  a26 := Try.isAgg3
  z26 := Try.sizeOf3
  v26 := Try.zeroValue3
  t28 := Try.underlying116
  a28 := Try.isAgg116
  z28 := Try.sizeOf116
  v28 := Try.zeroValue116
  i26 := by kernel_rfl }
def sortA_ren : Go.Shelf.Ren := ⟨fun | 5 => 71 | 8 => 86 | 7 => 85 | 19 => 96 | 20 => 97 | 10 => 87 | 11 => 88 | 12 => 89 | 13 => 90 | 14 => 91 | 15 => 92 | 16 => 93 | 17 => 94 | 18 => 95 | 30 => 98 | 31 => 99 | 32 => 100 | 33 => 101 | 34 => 102 | 35 => 103 | 40 => 104 | n => n, fun | 23 => 59 | 25 => 3 | 3 => 3 | 32 => 145 | 22 => 59 | 0 => 0 | 44 => 154 | 46 => 156 | 4 => 4 | 36 => 148 | 35 => 147 | 41 => 113 | 5 => 5 | 9 => 9 | 53 => 157 | 57 => 161 | 63 => 163 | 64 => 164 | n => n, fun | n => n⟩
theorem sortA : Go.Proofs.SlLaysM.n5 Try.prog sortA_ren := {
  mixed := by kernel_rfl
  f5 := ⟨Try.f71.name, by decide, Try.func71.trans (congrArg some (by kernel_rfl))⟩
  f7 := ⟨Try.f85.name, by decide, Try.func85.trans (congrArg some (by kernel_rfl))⟩
  f8 := Try.func86.trans (congrArg some (by kernel_rfl))
  f10 := ⟨Try.f87.name, by decide, Try.func87.trans (congrArg some (by kernel_rfl))⟩
  f11 := ⟨Try.f88.name, by decide, Try.func88.trans (congrArg some (by kernel_rfl))⟩
  f12 := ⟨Try.f89.name, by decide, Try.func89.trans (congrArg some (by kernel_rfl))⟩
  f13 := ⟨Try.f90.name, by decide, Try.func90.trans (congrArg some (by kernel_rfl))⟩
  f14 := ⟨Try.f91.name, by decide, Try.func91.trans (congrArg some (by kernel_rfl))⟩
  f15 := ⟨Try.f92.name, by decide, Try.func92.trans (congrArg some (by kernel_rfl))⟩
  f16 := ⟨Try.f93.name, by decide, Try.func93.trans (congrArg some (by kernel_rfl))⟩
  f17 := ⟨Try.f94.name, by decide, Try.func94.trans (congrArg some (by kernel_rfl))⟩
  f18 := ⟨Try.f95.name, by decide, Try.func95.trans (congrArg some (by kernel_rfl))⟩
  f19 := Try.func96.trans (congrArg some (by kernel_rfl))
  f20 := Try.func97.trans (congrArg some (by kernel_rfl))
  f30 := ⟨Try.f98.name, by decide, Try.func98.trans (congrArg some (by kernel_rfl))⟩
  f31 := Try.func99.trans (congrArg some (by kernel_rfl))
  f32 := Try.func100.trans (congrArg some (by kernel_rfl))
  f33 := ⟨Try.f101.name, by decide, Try.func101.trans (congrArg some (by kernel_rfl))⟩
  f34 := ⟨Try.f102.name, by decide, Try.func102.trans (congrArg some (by kernel_rfl))⟩
  f35 := ⟨Try.f103.name, by decide, Try.func103.trans (congrArg some (by kernel_rfl))⟩
  f40 := ⟨Try.f104.name, by decide, Try.func104.trans (congrArg some (by kernel_rfl))⟩
  t0 := Try.underlying0
  a0 := Try.isAgg0
  z0 := Try.sizeOf0
  v0 := Try.zeroValue0
  t3 := Try.underlying3
  a3 := Try.isAgg3
  z3 := Try.sizeOf3
  v3 := Try.zeroValue3
  t4 := Try.underlying4
  a4 := Try.isAgg4
  z4 := Try.sizeOf4
  v4 := Try.zeroValue4
  t5 := Try.underlying5
  a5 := Try.isAgg5
  z5 := Try.sizeOf5
  v5 := Try.zeroValue5
  t9 := Try.underlying9
  a9 := Try.isAgg9
  z9 := Try.sizeOf9
  v9 := Try.zeroValue9
  t22 := Try.underlying59
  a22 := Try.isAgg59
  z22 := Try.sizeOf59
  v22 := Try.zeroValue59
  t23 := Try.underlying59
  a23 := Try.isAgg59
  z23 := Try.sizeOf59
  v23 := Try.zeroValue59
  t25 := Try.underlying3
  a25 := Try.isAgg3
  z25 := Try.sizeOf3
  v25 := Try.zeroValue3
  t32 := Try.underlying145
  a32 := Try.isAgg145
  z32 := Try.sizeOf145
  v32 := Try.zeroValue145
  t35 := Try.underlying147
  a35 := Try.isAgg147
  z35 := Try.sizeOf147
  v35 := Try.zeroValue147
  t36 := Try.underlying148
  a36 := Try.isAgg148
  z36 := Try.sizeOf148
  v36 := Try.zeroValue148
  t41 := Try.underlying113
  a41 := Try.isAgg113
  z41 := Try.sizeOf113
  v41 := Try.zeroValue113
  t44 := Try.underlying154
  a44 := Try.isAgg154
  z44 := Try.sizeOf154
  v44 := Try.zeroValue154
  t46 := Try.underlying156
  a46 := Try.isAgg156
  z46 := Try.sizeOf156
  v46 := Try.zeroValue156
  t53 := Try.underlying157
  a53 := Try.isAgg157
  z53 := Try.sizeOf157
  v53 := Try.zeroValue157
  t57 := Try.underlying161
  a57 := Try.isAgg161
  z57 := Try.sizeOf161
  v57 := Try.zeroValue161
  t63 := Try.underlying163
  a63 := Try.isAgg163
  z63 := Try.sizeOf163
  v63 := Try.zeroValue163
  t64 := Try.underlying164
  a64 := Try.isAgg164
  z64 := Try.sizeOf164
  v64 := Try.zeroValue164 }

theorem sortsA (m : Nat) : AnyZI.SortsIn Try.prog sortedA_ren Fence.wide m :=
  ⟨fun blk off cap ss W hH hblk hsz => callsIn_wide.2 (AnyM.slices_Sort_int sortA blk off cap ss W hH hblk hsz),
   fun p cap W => callsIn_wide.2 (AnyM.slices_Sort_int_none sortA p cap W)⟩
theorem intKeys_spec {w : World} {b n : Nat} {D : DataW Value} (h : w.ownsMap Try.prog 3 RV b n D) : (intKeys D).Nodup ∧ ∀ x, x ∈ intKeys D ↔ Maps.has D (.int .i64 x) = true := by
  obtain ⟨es, hD, hpw, _⟩ := h.entries kdI
  obtain ⟨es', hD', hko⟩ := h.keysOf
  obtain rfl : es = es' := by rw [hD] at hD'; simpa using hD'
  subst hD
  have hk : ∀ p ∈ es, ∃ x, p.1 = .int .i64 x := fun p hp => by
    obtain ⟨v, hv⟩ := hko p hp
    obtain ⟨x, _, hx, _⟩ := Maps.keyOf_i64 Try.underlying3 hv
    exact ⟨x, hx⟩
  refine ⟨?_, fun x => ?_⟩
  · show (es.map fun p => Go.intOf p.1).Nodup
    refine List.pairwise_map.2 (hpw.imp_of_mem fun {p q} hp' hq' hne e => hne ?_)
    obtain ⟨a, ha⟩ := hk p hp'
    obtain ⟨b, hb⟩ := hk q hq'
    rw [ha, hb] at e ⊢
    exact congrArg _ e
  · rw [Maps.has_eq, List.any_eq_true]
    show x ∈ (es.map fun p => Go.intOf p.1) ↔ _
    rw [List.mem_map]
    constructor
    · rintro ⟨p, hp', rfl⟩
      obtain ⟨a, ha⟩ := hk p hp'
      exact ⟨p, hp', by rw [ha]; simp [Lit.sameKey, Go.intOf]⟩
    · rintro ⟨p, hp', hs⟩
      obtain ⟨a, ha⟩ := hk p hp'
      rw [ha] at hs
      exact ⟨p, hp', by rw [ha]; simpa [Lit.sameKey, Go.intOf] using hs⟩
/-- The keys of the messages under way, ascending. -/
def KeysOf (ms : Int → Option MsgM) (L : List Int) : Prop := L.Pairwise (· < ·) ∧ ∀ x, x ∈ L ↔ I64 x ∧ (ms x).isSome = true
theorem sorted_ext : ∀ {a b : List Int}, a.Pairwise (· < ·) → b.Pairwise (· < ·) → (∀ x, x ∈ a ↔ x ∈ b) → a = b
  | [], [], _, _, _ => rfl
  | [], y :: b, _, _, h => by have := (h y).2 (by simp); simp at this
  | x :: a, [], _, _, h => by have := (h x).1 (by simp); simp at this
  | x :: a, y :: b, ha, hb, h => by
    rw [List.pairwise_cons] at ha hb
    have hxy : x = y := by
      have h1 := (h x).1 (by simp)
      have h2 := (h y).2 (by simp)
      rcases List.mem_cons.1 h1 with e | h1
      · exact e
      · rcases List.mem_cons.1 h2 with e | h2
        · exact e.symm
        · have := ha.1 y h2; have := hb.1 x h1; omega
    subst hxy
    rw [sorted_ext ha.2 hb.2 fun z => ?_]
    constructor
    · intro hz
      rcases List.mem_cons.1 ((h z).1 (by simp [hz])) with e | hz'
      · have := ha.1 z hz; omega
      · exact hz'
    · intro hz
      rcases List.mem_cons.1 ((h z).2 (by simp [hz])) with e | hz'
      · have := hb.1 z hz; omega
      · exact hz'
theorem KeysOf.unique {ms : Int → Option MsgM} {a b : List Int} (ha : KeysOf ms a) (hb : KeysOf ms b) : a = b := sorted_ext ha.1 hb.1 fun x => (ha.2 x).trans (hb.2 x).symm
theorem keys_sorted {ss : List Int} (hn : ss.Nodup) : (ss.mergeSort leI).Pairwise (· < ·) := by
  have tr : ∀ a b c : Int, leI a b = true → leI b c = true → leI a c = true := fun a b c h1 h2 => by simp only [leI, decide_eq_true_eq] at *; exact Int.le_trans h1 h2
  have to : ∀ a b : Int, (leI a b || leI b a) = true := fun a b => by simp only [leI, Bool.or_eq_true, decide_eq_true_eq]; exact Int.le_total a b
  have h1 := List.pairwise_mergeSort tr to ss
  have h2 : (ss.mergeSort leI).Nodup := (List.mergeSort_perm ss leI).nodup_iff.2 hn
  refine (h1.and h2).imp ?_
  rintro a b ⟨h3, h4⟩
  simp only [leI, decide_eq_true_eq] at h3
  have : a ≠ b := h4
  omega
def PendMade (s : NetS) (w : World) (e : Ending) (w' : World) : Prop := ∃ (v : Value) (L : List Int), e = .returned v ∧ Reads vi w' v L ∧ KeysOf s.ms L ∧ L.length ≤ s.cnt ∧ (∀ k, v.ownBlock = some k → w.heap.size ≤ k) ∧ Below w.heap.size w w'
set_option maxRecDepth 100000
set_option maxHeartbeats 4000000
theorem pending_any {P : Nat → Prop} {n b : Nat} {gv : Value} {s : NetS} {w : World} (h : NetAt P n b gv s w) (hc : s.cnt ≤ 1000000000) : Calls Try.prog 22 #[.pointer (some ⟨n, 0, none⟩)] w (PendMade s w) := by
  obtain ⟨M, ⟨D, hown, hsz, hD⟩, hM⟩ := h.way
  have d2 : w.cell? ⟨n, 2, none⟩ = some (.map (some b)) := h.box.cell 2
  obtain ⟨hnd, hmem⟩ := intKeys_spec hown
  have hfin : ∀ ss : List Int, ss.Perm (intKeys D) → KeysOf s.ms (ss.mergeSort leI) := fun ss hp => by
    refine ⟨keys_sorted (hp.nodup_iff.2 hnd), fun x => ?_⟩
    rw [(List.mergeSort_perm ss leI).mem_iff, hp.mem_iff, hmem]
    constructor
    · intro hx
      have hw := intKeys_wf hown Try.underlying3 x ((hmem x).2 hx)
      have hI : I64 x := by
        rw [Lit.wf_int_iff] at hw
        have h0 : IntKind.i64.min = -9223372036854775808 := by decide
        have h1 : IntKind.i64.max = 9223372036854775807 := by decide
        unfold I64; omega
      refine ⟨hI, ?_⟩
      rw [(hD x hI).1] at hx
      cases hs : s.ms x with
      | none => rw [(hM x hI).1 hs] at hx; cases hx
      | some m => rfl
    · rintro ⟨hI, hx⟩
      rw [(hD x hI).1]
      obtain ⟨m, hm⟩ := Option.isSome_iff_exists.1 hx
      obtain ⟨cs, h1, _⟩ := (hM x hI).2 m hm
      rw [h1]; rfl
  have hlen : (intKeys D).length = s.cnt := by
    obtain ⟨es, hD', _⟩ := hown.entries kdI
    rw [← hsz, hD']
    simp [intKeys, Maps.size]
  have HF : Hid (∀ e w', (∃ (v : Value) (ss : List Int), e = .returned v ∧ ss.Perm (intKeys D) ∧ w'.ownsRow w.heap.size 3 1 v ss.length ((ss.mergeSort (fun x y => decide (x ≤ y))).map encZ) ∧ Below w.heap.size w w') → PendMade s w e w') := Lib.hid fun e w' ⟨v, ss, he, hp, hr, hb⟩ => ⟨v, _, he, Reads.of_owns hr, hfin ss hp, by rw [(List.mergeSort_perm ss leI).length_eq, hp.length_eq, hlen]; exact Nat.le_refl _, fun k hk => (hr.lt k hk).1, hb⟩
  generalize hQ : PendMade s w = Q at *
  clear hQ hfin hM hD hmem hnd hlen h
  refine (callsIn_wide (n := 6)).1 ?_
  have hbl := hown.lt
  have hseq : SeqGives Fence.wide 2 Try.prog 72 #[.pointer (some ⟨w.heap.size, 0, none⟩)] encZ (fun ss => ss.Perm (intKeys D)) (Maps.size D) (w.alloc (.cells #[.map (some b)] 72)) :=
    AnyZI.keys_gives (ρ := keysA_ren) { keysA with } Fence.wide _ trivial rfl (by omega) w.heap.size b s.cnt D _ (by simp) (by simp) (by
      obtain ⟨es, clock, hb, Ft, hs, hD⟩ := hown
      exact ⟨es, clock, (Below.heap_alloc _ _ b hbl).trans hb, Ft, hs, hD⟩)
  have cK : ∀ mb W, CallsIn Fence.wide 5 Try.prog 44 #[.map mb] W fun e w' => e = .returned (.func (.func 72) #[] #[.pointer (some ⟨W.heap.size, 0, none⟩)]) ∧ w' = W.alloc (.cells #[.map mb] 72) := fun mb W => AnyZI.keys_in keysA Fence.wide 5 trivial rfl mb W
  have cS := AnyZI.sorted_in sortedA Fence.wide 5 trivial trivial trivial trivial rfl (by omega) (sortsA _) (enters_of Try.func71 (by kernel_rfl) rfl) 72 #[.pointer (some ⟨w.heap.size, 0, none⟩)] trivial (enters_of Try.func72 (by kernel_rfl) rfl) _ _ (by rw [hsz]; unfold maxLen; omega) (by rw [hsz]; omega) _ hseq
  change CallsIn _ _ Try.prog 43 _ _ _ at cS
  have hfK : Fence.wide.fn 44 := trivial
  have hfS : Fence.wide.fn 43 := trivial
  clear hseq
  refine callsIn_of_wp Try.func22 rfl trivial ?_ rfl
  simp only [Try.ntmps22, List.size_toArray, List.length_cons, List.length_nil, Nat.reduceAdd, Nat.reduceSub, Array.replicate_succ, Array.replicate_zero, List.push_toArray, List.append_toArray, List.nil_append, List.cons_append]
  gi_wp2_with (first
    | (gi_at_call 44; refine (cK _ _).mono ?_; rintro e w' ⟨rfl, rfl⟩)
    | (gi_at_call 43; refine cS.mono ?_; rintro e w' ⟨v, ss, rfl, hS, hrow, hnil, hb⟩))
  exact HF.out _ _ ⟨v, ss, rfl, hS, ownsRow_base_a hrow (by simp), ((Below.refl _ w).alloc (Nat.le_refl _) _).trans (hb.mono (by simp))⟩
end Go.Proofs.Ytmcdmcnbnnfhnaa
