/-
  Chapter 02: names.Subsets.
-/
import Derived.Test.YtgolodpihmdmoaaSh
import Derived.Laws.MakeOwn
import Derived.Shelf.GgSortFunc.Compose
namespace Go.Proofs.Ytgolodpihmdmoaa.namesSubsets
open Go.RowKit Go.Sort Go.Shelf

theorem Try.infoSet : (Try.prog.info? 24).map (fun i => (i.zero, i.size, i.bytes)) = some (some (.slice none 0 0), 1, 24) := by kernel_rfl

/-- Rows whose elements are of different types lie in different blocks. -/
theorem rows_ne {w : World} {b1 b2 n1 n2 s1 s2 : Nat} {e1 e2 : TypeId} {v1 v2 : Value} {xs1 xs2 : List Value} (h1 : w.ownsRow b1 e1 s1 v1 n1 xs1) (h2 : w.ownsRow b2 e2 s2 v2 n2 xs2) (hne : e1 ≠ e2) :
    v1.ownBlock = none ∨ v1.ownBlock ≠ v2.ownBlock := by
  rcases h1.2 with ⟨rfl, _⟩ | ⟨g1, c1, cur1, rfl, _, hg1, _⟩
  · exact .inl rfl
  · rcases h2.2 with ⟨rfl, _⟩ | ⟨g2, c2, cur2, rfl, _, hg2, _⟩
    · right; simp [Value.ownBlock]
    · right
      intro e
      simp [Value.ownBlock] at e
      subst e
      rw [hg1] at hg2
      injection hg2 with hg2
      injection hg2 with _ ht
      exact hne ht

/-- The rows of the sets made so far. -/
def Sets (w : World) (base : Nat) (us : List Value) (S : Nat → List Str) : Prop :=
  ∀ i (h : i < us.length), w.ownsRow base 9 1 us[i] (S i).length ((S i).map vs)

theorem Sets.kept {w w' : World} {base : Nat} {us : List Value} {S : Nat → List Str} {row : Option Nat} (h : Sets w base us S) (hg : w.grownBy w' row) (hne : ∀ i (h : i < us.length), us[i].ownBlock = none ∨ us[i].ownBlock ≠ row) : Sets w' base us S :=
  fun i hi => (h i hi).kept hg (hne i hi)

theorem Sets.below {w w' : World} {base : Nat} {us : List Value} {S : Nat → List Str} (h : Sets w base us S) (hb : Below w.heap.size w w') : Sets w' base us S :=
  fun i hi => by
    have ho := h i hi
    refine ⟨ho.1, ?_⟩
    rcases ho.2 with hn | ⟨g, cap, cur, hv, hbb, hgg, rest⟩
    · exact .inl hn
    · exact .inr ⟨g, cap, cur, hv, hbb, by rw [hb.block g (Array.getElem?_eq_some_iff.1 hgg).1]; exact hgg, rest⟩

theorem Sets.snoc {w : World} {base : Nat} {us : List Value} {u : Value} {S : Nat → List Str} (h : Sets w base us S) (hu : w.ownsRow base 9 1 u (S us.length).length ((S us.length).map vs)) : Sets w base (us ++ [u]) S := by
  intro i hi
  by_cases hlt : i < us.length
  · rw [List.getElem_append_left hlt]; exact h i hlt
  · have : i = us.length := by simp at hi; omega
    subst this
    rw [List.getElem_append_right (Nat.le_refl _)]
    simpa using hu

theorem ownsRow_base {w : World} {b b' : Nat} {e : TypeId} {s n : Nat} {v : Value} {xs : List Value} (h : w.ownsRow b e s v n xs) (hb : b' ≤ b) : w.ownsRow b' e s v n xs := by
  refine ⟨h.1, ?_⟩
  rcases h.2 with hn | ⟨g, cap, cur, hv, hbb, rest⟩
  · exact .inl hn
  · exact .inr ⟨g, cap, cur, hv, Nat.le_trans hb hbb, rest⟩

/-- A row of sets: N places in a row, each reads. -/
def ReadsSets (w : World) (v : Value) (N : Nat) (L : Nat → List Str) : Prop :=
  ∃ b cap, v = .slice (some ⟨b, 0, none⟩) N cap ∧ N ≤ cap ∧ cap ≤ maxLen ∧ b < w.heap.size ∧ ∀ i, i < N → ∃ u, w.cell? ⟨b, i, none⟩ = some u ∧ Reads vs w u (L i)
theorem ReadsSets.keep {w w' : World} {v : Value} {N : Nat} {L : Nat → List Str} (h : ReadsSets w v N L) (hb : Below w.heap.size w w') : ReadsSets w' v N L := by
  obtain ⟨b, cap, rfl, h1, h2, h3, h4⟩ := h
  refine ⟨b, cap, rfl, h1, h2, Nat.lt_of_lt_of_le h3 hb.size, fun i hi => ?_⟩
  obtain ⟨u, hu, hr⟩ := h4 i hi
  exact ⟨u, (hb.cell (p := ⟨b, i, none⟩) h3).trans hu, hr.keep hb⟩

/-- The bit j of b. -/
theorem bit_and (b j : Nat) (hb : b < 2 ^ 60) : bits .and .i64 ((b : Int) / 2 ^ j) 1 = if b.testBit j then 1 else 0 := by
  have e : ((b : Int) / 2 ^ j) = ((b / 2 ^ j : Nat) : Int) := by simp
  have hle : b / 2 ^ j ≤ b := Nat.div_le_self _ _
  have h1 : (BitVec.ofInt 64 ((b / 2 ^ j : Nat) : Int)).toNat = b / 2 ^ j := by
    rw [BitVec.ofInt_natCast, BitVec.toNat_ofNat]; exact Nat.mod_eq_of_lt (by omega)
  rw [e]
  show IntKind.i64.wrap ((BitVec.ofInt 64 ((b / 2 ^ j : Nat) : Int) &&& BitVec.ofInt 64 1).toNat : Int) = _
  rw [BitVec.toNat_and, h1, show (BitVec.ofInt 64 1).toNat = 1 from rfl, Nat.and_one_is_mod, Nat.testBit_eq_decide_div_mod_eq]
  rcases Nat.mod_two_eq_zero_or_one (b / 2 ^ j) with h | h
  · rw [h]; rfl
  · rw [h]; rfl

theorem below_sort {α : Type} [Inhabited α] {enc : α → Value} {B : Nat} {w0 w : World} {g m : Nat} {dk : Array α} {os : Array Obj} (h : Below B w0 w) (hg : B ≤ g) (hg2 : g < w.heap.size) : Below B w0 (sortWorld enc w g 0 m dk os) := by
  have h1 := Go.Lib.below_putRow (enc := enc) (q := m) (d := dk) h hg
  unfold sortWorld
  refine ⟨h1.os, h1.tape, h1.output, Nat.le_trans h1.size (by simp [grow]), fun i hi => ?_⟩
  rw [heap_grow_old _ _ (by rw [size_putRow]; show i < w.heap.size; omega)]
  exact h1.block i hi

theorem reads_off {α : Type} [Inhabited α] {enc : α → Value} {w : World} {g m base n : Nat} {e : TypeId} {dk : Array α} {os : Array Obj} {v : Value} {xs : List Str} (h : w.ownsRow base e 1 v n (xs.map vs)) (hne : v.ownBlock = none ∨ v.ownBlock ≠ some g) : Reads vs (sortWorld enc w g 0 m dk os) v xs := by
  have hr := Reads.of_owns h
  have hlt := h.lt
  obtain ⟨ao, cap, rfl, hl, hm, hn, hx⟩ := hr
  refine ⟨ao, cap, rfl, hl, hm, hn, fun hne' => ?_⟩
  obtain ⟨b, off, rfl, hb, hc⟩ := hx hne'
  have hbg : b ≠ g := by
    rcases hne with h | h
    · simp [Value.ownBlock] at h
    · intro e; apply h; simp [Value.ownBlock, e]
  have hsz : (putRow enc (Sort.ahead w m) g 0 dk).heap.size = w.heap.size := by rw [size_putRow]; rfl
  refine ⟨b, off, rfl, ?_, fun j hj => ?_⟩
  · unfold sortWorld; simp only [grow, Array.size_append]; omega
  · unfold sortWorld
    rw [cell?_grow _ _ _ (by rw [hsz]; exact hb), cell?_putRow_other _ _ _ _ _ _ (.inl hbg)]
    exact hc j hj

theorem pick_succ {set : List Str} {b j : Nat} (h : j < set.length) (hb : b.testBit j = true) : pick set b (j + 1) = pick set b j ++ [set[j]] := by
  rw [pick, if_pos hb]; simp [List.getD, h]
theorem pick_skip {set : List Str} {b j : Nat} (hb : b.testBit j = false) : pick set b (j + 1) = pick set b j := by
  rw [pick, hb]; simp

theorem ownsRow_on {w w' : World} {base : Nat} {e : TypeId} {s n : Nat} {v : Value} {xs : List Value} (h : w.ownsRow base e s v n xs) (hb : Below w.heap.size w w') : w'.ownsRow base e s v n xs := by
  refine ⟨h.1, ?_⟩
  rcases h.2 with hn | ⟨g, cap, cur, hv, hbb, hgg, rest⟩
  · exact .inl hn
  · exact .inr ⟨g, cap, cur, hv, hbb, by rw [hb.block g (Array.getElem?_eq_some_iff.1 hgg).1]; exact hgg, rest⟩

/-- What Subsets returns. -/
def GoodSets (set : List Str) (N : Nat) (L : Nat → List Str) : Prop :=
  ∀ i, i < N → (L i).Pairwise (· < ·) ∧ (∀ s ∈ L i, s ∈ set) ∧ (L i).length ≤ set.length ∧ (i + 1 < N → cmpL (L i) (L (i + 1)) = -1)
def SubsetsMade (w : World) (set : List Str) (e : Ending) (w' : World) : Prop :=
  ∃ (u : Value) (L : Nat → List Str), e = .returned (.tuple #[u, .int .i64 0]) ∧ ReadsSets w' u (2 ^ set.length) L ∧ GoodSets set (2 ^ set.length) L ∧ Below w.heap.size w w'

theorem subsets_end {set : List Str} (hs : set.Pairwise (· < ·)) {N : Nat} (hN : N = 2 ^ set.length) [Inhabited (Fin N)] (d' : Array (Fin N)) (hp : PermIn 0 N (Array.ofFn fun i : Fin N => i) d')
    (hsrt : SortedIn (ltOf fun x y => cmpL (pick set (Fin.val x) set.length) (pick set (Fin.val y) set.length)) 0 N d') : GoodSets set (2 ^ set.length) fun i => pick set (d'[i]!).val set.length := by
  have hds : (Array.ofFn (fun i : Fin N => i)).size = N := by simp
  intro i hi
  refine ⟨pick_sorted hs _ _ (Nat.le_refl _), fun s h => ?_, pick_len _ _ _, fun h => ?_⟩
  · obtain ⟨j, hj, _, rfl⟩ := (mem_pick set _ s _).1 h
    simp [List.getD, hj]
  · refine sorted_strict (fun x : Fin N => pick set x.val set.length) (fun x y e => Fin.ext (pick_inj hs (by omega) (by omega) e)) (Array.ofFn fun i : Fin N => i) d' ?_ (by rw [hds]; exact hp) (by rw [hds]; exact hsrt) i (by rw [hds]; omega)
    rw [Array.toList_ofFn, List.Nodup, List.pairwise_iff_getElem]
    intro i j hi hj hij e
    simp only [List.getElem_ofFn] at e
    have := congrArg Fin.val e
    simp at this
    omega

set_option maxRecDepth 100000 in
set_option maxHeartbeats 2000000 in
theorem subsets_small (v : Value) (xs : List Str) (w : World) (hr : Reads vs w v xs) (hn : xs.length ≤ 1000000) (hs : (ofL xs).length ≤ 10) :
    Calls Try.prog 34 #[v] w (SubsetsMade w (ofL xs)) := by
  have HSRT := Lib.hid (ofL_sorted xs)
  go_enter Try.func34, Try.ntmps34
  go_wp2_with fail
  refine (of_any v xs _ hr (by omega)).mono ?_
  rintro e w1 ⟨v1, rfl, hown1, hb1⟩
  have hr1 := Reads.of_owns hown1
  generalize ofL xs = set at *
  obtain ⟨ao, cap, rfl, hl, hm, hno, hx⟩ := hr1
  unfold maxLen at hm
  have HX := Lib.hid hx
  have H1 := Lib.hid (And.intro hown1 hb1)
  clear hx hown1 hb1 hno hr
  obtain ⟨N, hN⟩ : ∃ N : Nat, N = 2 ^ set.length := ⟨_, rfl⟩
  have hN1 : 1 ≤ N := by rw [hN]; exact Nat.one_le_two_pow
  have hN2 : N ≤ 1024 := by rw [hN]; exact Nat.pow_le_pow_right (n := 2) (by omega) hs
  have hpw : wrap64 (2 ^ set.length) = (N : Int) := by
    have e : ((2 : Int) ^ set.length) = ((2 ^ set.length : Nat) : Int) := by simp
    rw [e, ← hN]; unfold wrap64; omega
  have hd : decide ((10 : Int) < set.length) = false := decide_eq_false (by omega)
  obtain ⟨i2, hinf2, hy0, hy1, hy2⟩ := info_parts Try.infoSet
  obtain ⟨w2, hmk, hown2, hgr2⟩ := run_makeSlice_owned (P := Try.prog) w1 w1.heap.size 43 24 i2 (.slice none 0 0) 1 Try.underlying43 hinf2 hy0 hy1 .i64 .i64 N (by omega) (by rw [hy2]; omega) (by unfold maxLen; omega) (Nat.le_refl _)
  obtain ⟨i0, hinf, hz0, hz1, hz2⟩ := info_parts Try.infoStr
  have HI := Lib.hid (And.intro hinf (And.intro hz0 (And.intro hz1 hz2)))
  have HI2 := Lib.hid (And.intro hinf2 (And.intro hy0 (And.intro hy1 hy2)))
  have hb2 : Below w1.heap.size w1 w2 := ⟨hgr2.os, hgr2.tape, hgr2.output, hgr2.size, fun k hk => hgr2.block k hk (by simp)⟩
  have H2 := Lib.hid (And.intro hown2 hb2)
  have HN := Lib.hid hN
  clear hinf hz0 hz1 hz2 hinf2 hy0 hy1 hy2 hown2 hgr2 hb2 hN
  go_wp2
  rw [hpw]
  clear hpw hmk hd
  go_loopg [5, 22] N (fun m o i wr => ∃ (b : Nat) (us : List Value), m + b = N ∧ i = .int .i64 b ∧ us.length = b ∧ wr.ownsRow w1.heap.size 24 1 o b us ∧ Sets wr w1.heap.size us (fun c => pick set c set.length) ∧ Below w1.heap.size w1 wr)
  case atStart => exact ⟨0, [], by omega, rfl, rfl, H2.out.1, fun i hi => by simp at hi, H2.out.2⟩
  case round =>
    obtain ⟨b, us, hmb, rfl, hus, hown, hset, hbel⟩ := hrel
    have HM := Lib.hid (And.intro hmb hus)
    have hb : b ≤ N := by omega
    have HO := Lib.hid (And.intro hown (And.intro hset hbel))
    clear hmb hus hown hset hbel
    by_cases hlt : b < N
    · obtain ⟨G, hG⟩ : ∃ G, G = gk := ⟨_, rfl⟩
      subst hG
      obtain ⟨wo, hwo⟩ : ∃ wo : World, wo = wr := ⟨_, rfl⟩
      subst hwo
      go_wp2
      go_loopg [7, 27] set.length (fun m o i wr => ∃ (j : Nat), m + j = set.length ∧ i = .int .i64 j ∧ wr.ownsRow wo.heap.size 9 1 o (pick set b j).length ((pick set b j).map vs) ∧ Below wo.heap.size wo wr)
      case atStart => exact ⟨0, by omega, rfl, by simp [pick, World.ownsRow], Below.refl _ _⟩
      case round =>
        obtain ⟨j, hmj, rfl, hownj, hbelj⟩ := hrel
        have HJ := Lib.hid (And.intro hmj (And.intro hownj hbelj))
        have hj : j ≤ set.length := by omega
        clear hmj hownj hbelj
        by_cases hjl : j < set.length
        · obtain ⟨bl, off, rfl, hbb, hc⟩ := HX.out (by intro e; subst e; simp at hjl)
          have hcell : wr.cell? ⟨bl, off + j, none⟩ = some (.string (toB set[j])) := (HJ.out.2.2.cell (p := ⟨bl, off + j, none⟩) (Nat.lt_of_lt_of_le hbb HO.out.2.2.size)).trans ((HO.out.2.2.cell hbb).trans (hc j hjl))
          clear hc
          by_cases hbit : b.testBit j = true
          · have hb1 : bits BinOp.and IntKind.i64 ((b : Int) / 2 ^ j) 1 = 1 := by rw [bit_and b j (by omega), if_pos hbit]
            have HP := Lib.hid (pick_succ hjl hbit)
            have hpl := pick_len set b j
            clear hbit
            generalize set[j] = x at *
            generalize pick set b j = one at *
            go_wp2_with (at_builtin; refine wpList_append_own _ rfl _ _ 24 rfl wo.heap.size 9 i0 (.string ⟨#[]⟩) 1 16 Try.underlying24 HI.out.1 HI.out.2.1 HI.out.2.2.1 HI.out.2.2.2 rfl (by decide) _ _ _ rfl (by exact HJ.out.2.1.alloc _) ⟨_, 0, none⟩ 1 1 [.string (toB x)] rfl rfl ?q1 ?q2 ?q3 ?q4 ?q5 ?_)
            case q1 => exact cell_one_new _ _ _
            case q2 => intro u hu; simp at hu; subst hu; rfl
            case q3 => unfold maxLen; omega
            case q4 => omega
            case q5 => have := HJ.out.2.2.size; simp; omega
            intro v3 w3 hown3 hgr3 _
            have H3 := Lib.hid (append_keep HJ.out.2.1 HJ.out.2.2 (by exact hgr3) hown3)
            clear hown3 hgr3 hb1
            go_wp2
            go_roundg (set.length - (j + 1))
            case measure => have := HJ.out.1; omega
            case rel => exact ⟨j + 1, by omega, by go_num, by rw [HP.out]; exact H3.out.1, H3.out.2⟩
          · have hbit := Bool.eq_false_iff.2 hbit
            have hb1 : bits BinOp.and IntKind.i64 ((b : Int) / 2 ^ j) 1 = 0 := by rw [bit_and b j (by omega), hbit]; rfl
            have HP := Lib.hid (pick_skip (set := set) hbit)
            clear hbit
            go_wp2
            go_roundg (set.length - (j + 1))
            case measure => have := HJ.out.1; omega
            case rel => exact ⟨j + 1, by omega, by go_num, by rw [HP.out]; exact HJ.out.2.1, HJ.out.2.2⟩
        · have hjs : j = set.length := by omega
          have HJS := Lib.hid hjs
          have ho := ownsRow_on HO.out.1 HJ.out.2.2
          obtain ⟨a7, n7, c7, h7⟩ : ∃ a n c, u7 = .slice a n c := by
            rcases HJ.out.2.1.2 with ⟨h, _⟩ | ⟨g, cp, cur, h, _⟩ <;> exact ⟨_, _, _, h⟩
          subst h7
          have hone : ∀ u ∈ [Value.slice a7 n7 c7], u.oneCell' = true := by
            intro u hu
            simp at hu; subst hu
            rfl
          have HOW := Lib.hid (And.intro ho hone)
          clear hjs ho hone
          have hq5 : w1.heap.size ≤ (wr.alloc (.cells #[(.slice a7 n7 c7)] 24)).heap.size := by have := HO.out.2.2.size; have := HJ.out.2.2.size; simp; omega
          have HQ5 := Lib.hid hq5
          clear hq5
          go_wp2_with (at_builtin; refine wpList_append_own _ rfl _ _ 43 rfl w1.heap.size 24 i2 (.slice none 0 0) 1 24 Try.underlying43 HI2.out.1 HI2.out.2.1 HI2.out.2.2.1 HI2.out.2.2.2 rfl (by decide) _ _ _ rfl (by exact HOW.out.1.alloc _) ⟨_, 0, none⟩ 1 1 [(.slice a7 n7 c7)] rfl rfl (cell_one_new _ _ _) HOW.out.2 (by unfold maxLen; omega) (by omega) HQ5.out ?_)
          intro v3 w3 hown3 hgr3 _
          have hlen := HM.out.2
          have hbw : Below w1.heap.size w1 wr := HO.out.2.2.trans (HJ.out.2.2.mono HO.out.2.2.size)
          have hset3 : Sets w3 w1.heap.size (us ++ [(.slice a7 n7 c7)]) (fun c => pick set c set.length) := by
            refine Sets.snoc ?_ ?_
            · refine Sets.kept (row := u5.ownBlock) (w := wr.alloc (.cells #[(.slice a7 n7 c7)] 24)) ?_ hgr3 fun i hi => ?_
              · exact (HO.out.2.1.below HJ.out.2.2).below ((Below.refl _ _).alloc (Nat.le_refl _) _)
              · exact rows_ne (HO.out.2.1 i hi) HO.out.1 (by decide)
            · rw [hlen]
              have h := HJ.out.2.1
              rw [HJS.out] at h
              exact ((ownsRow_base h HO.out.2.2.size).alloc (.cells #[(.slice a7 n7 c7)] 24)).kept hgr3 (rows_ne h (ownsRow_on HO.out.1 HJ.out.2.2) (by decide))
          have hbel3 : Below w1.heap.size w1 w3 := (hbw.alloc hbw.size _).grown hgr3 (by have := hbw.size; simp; omega) (fun k hk => (HO.out.1.lt k hk).1)
          have H3 := Lib.hid (And.intro hown3 (And.intro hset3 hbel3))
          clear hown3 hgr3 hset3 hbel3 hbw hlen
          go_wp2
          go_roundg (N - (b + 1))
          case measure => have := HM.out.1; omega
          case rel => exact ⟨b + 1, us ++ [(.slice a7 n7 c7)], by omega, by go_num, by simp [HM.out.2], H3.out.1, H3.out.2.1, H3.out.2.2⟩
    · have hbN : b = N := by omega
      subst hbN
      have ho := HO.out.1
      obtain ⟨g, cp, rfl, hg1, hg2, hg3, hg4⟩ := owned_addr ho (by omega)
      haveI : Inhabited (Fin b) := ⟨⟨0, by omega⟩⟩
      have hus := HM.out.2
      have hds : (Array.ofFn (fun i : Fin b => i)).size = b := by simp
      have hd! : ∀ j (h : j < b), (Array.ofFn (fun i : Fin b => i))[j]! = ⟨j, h⟩ := fun j h => by
        rw [getElem!_pos _ _ (by simpa using h)]; simp
      have hsort := sort_any (fun i : Fin b => us[i.val]'(by omega)) (fun i : Fin b => pick set i.val set.length)
        (fun i => by rcases (HO.out.2.1 i.val (by omega)).2 with ⟨h, _⟩ | ⟨g', c', cur, h, _⟩ <;> (show (us[i.val]'(by omega)).oneCell' = true; rw [h]; rfl)) (swo _) g 0 cp (Array.ofFn fun i : Fin b => i) wr
        (fun m os dk _ x => reads_off (HO.out.2.1 x.val (by omega)) (rows_ne (HO.out.2.1 x.val (by omega)) ho (by decide)))
        (fun j hj => by
          rw [hds] at hj
          rw [Nat.zero_add, hd! j hj, ho.cellAt j (by omega), ho.frozenAt j]
          exact ⟨List.getElem?_eq_getElem (by omega), rfl⟩) hg2 (by rw [hds]; omega)
      rw [hds] at hsort
      have HSO := Lib.hid hsort
      clear hsort hd! ho
      go_wp2_with fail
      refine HSO.out.mono ?_
      rintro e w3 ⟨rfl, d', m, os, hp, hsrt, hw3⟩
      have hgd := subsets_end HSRT.out HN.out d' hp hsrt
      have hrd : ReadsSets w3 (.slice (some ⟨g, 0, none⟩) b cp) (2 ^ set.length) (fun i => pick set (d'[i]!).val set.length) := by
        rw [← HN.out]
        have hH : Holds (fun i : Fin b => us[i.val]'(by omega)) wr g 0 (Array.ofFn fun i : Fin b => i) := fun j hj => by
          rw [hds] at hj
          rw [Nat.zero_add, getElem!_pos _ _ (by simpa using hj), HO.out.1.cellAt j (by omega), HO.out.1.frozenAt j]
          simp only [Array.getElem_ofFn]
          exact ⟨List.getElem?_eq_getElem (by omega), trivial⟩
        have hsz : d'.size = (Array.ofFn (fun i : Fin b => i)).size := hp.1
        have hh := holds_sortWorld (fun i : Fin b => us[i.val]'(by omega)) wr g 0 m _ d' os hg2 hH hsz
        refine ⟨g, cp, rfl, hg3, hg4, ?_, fun i hi => ?_⟩
        · rw [hw3]
          have := (below_sort (enc := fun i : Fin b => us[i.val]'(by omega)) (m := m) (dk := d') (os := os) HO.out.2.2 hg1 hg2).size
          unfold sortWorld
          simp only [grow, Array.size_append, size_putRow]
          show g < wr.heap.size + _
          omega
        · have h1 := (hh i (by omega)).1
          rw [Nat.zero_add] at h1
          rw [hw3]
          exact ⟨_, h1, reads_off (HO.out.2.1 _ (by have := (d'[i]!).isLt; omega)) (rows_ne (HO.out.2.1 _ (by have := (d'[i]!).isLt; omega)) HO.out.1 (by decide))⟩
      have hbl : Below w.heap.size w w3 := by
        rw [hw3]
        exact H1.out.2.trans ((below_sort HO.out.2.2 hg1 hg2).mono H1.out.2.size)
      have HE := Lib.hid (And.intro hrd (And.intro hgd hbl))
      clear hw3 hgd hrd hbl hp hsrt
      go_wp2
      go_ret2
      exact ⟨_, _, rfl, HE.out⟩
end Go.Proofs.Ytgolodpihmdmoaa.namesSubsets
